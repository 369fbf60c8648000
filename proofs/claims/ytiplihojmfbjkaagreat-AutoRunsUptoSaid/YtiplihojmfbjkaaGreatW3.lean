/- One operation on abstract values. -/
import Derived.Test.YtiplihojmfbjkaaGreatW1
import Derived.Great.BuildSlice
import Derived.ChangeKeysEq
namespace Go.Proofs.YtiplihojmfbjkaaGreat
open Go.RowKit
def isNil:Value→Bool
  | .slice none 0 0=>true
  | _=>false
def zc (v:Value):D:=if isNil v then .sl [] else .v v
def nz:D→D
  | .v x=>zc x
  | d=>d
def constV:Value→Option VV
  | .agg cs=>if cs.all (·.oneCell') then some (.dat (cs.toList.map zc)) else none
  | .tuple _=>none
  | v=>some (.one (.d (.v v)))
def ev (fr:Fr):Operand→Option VV
  | .tmp t=>look fr t
  | .const v=>constV v
  | .func f=>some (.one (.fn f []))
  | .global _=>none
def rowsV:VV→Option (List (List D))
  | .one (.d (.sl r))=>some r
  | .one (.own _ r)=>some r
  | .one (.que _ _ _ r)=>some r
  | .one (.d (.v x))=>if isNil x then some [] else none
  | _=>none
def dataC:C→Option D
  | .d x=>some x
  | .own _ r=>some (.sl r)
  | _=>none
def dataCs:List C→Option (List D)
  | []=>some []
  | c :: cs=>match dataC c,dataCs cs with
    | some d,some ds=>some (d :: ds)
    | _,_=>none
def cellsV:VV→Option (List D)
  | .one (.d x)=>some [nz x]
  | .one (.own _ r)=>some [.sl r]
  | .dat cs=>some cs
  | .ag cs=>dataCs cs
  | _=>none
def strV:VV→Option ByteArray
  | .one (.d (.v (.string s)))=>some s
  | _=>none
def intV:VV→Option Int
  | .one (.d (.v (.int _ n)))=>some n
  | _=>none
structure Out where
  x:VV
  fr:Fr
  σ:Obs
def newOb (k:Nat) (ob:Ob) (fr:Fr) (σ:Obs):Out:=⟨.one (.po k 0),stripF k fr,(k,ob) :: stripS k σ⟩
def loadA (i:TyI) (cs:List D) (o:Nat):Option VV :=
  if i.agg=true then (if o=0∧cs.length=i.size then some (.dat cs) else if o+i.size≤cs.length then some (.dat ((cs.drop o).take i.size)) else none)
  else match cs[o]? with
    | some x=>some (.one (.d x))
    | none=>none
def partC (cs:List C):VV:=match dataCs cs with
  | some ds=>.dat ds
  | none=>.ag cs
def loadC (i:TyI) (cs:List C) (o:Nat):Option VV :=
  if i.agg=true then (if o=0∧cs.length=i.size then some (partC cs) else if o+i.size≤cs.length then some (partC ((cs.drop o).take i.size)) else none)
  else match cs[o]? with
    | some c=>some (.one c)
    | none=>none
def cellsC:VV→Option (List C)
  | .one (.d x)=>some [.d (nz x)]
  | .one c=>some [c]
  | .dat cs=>some (cs.map .d)
  | .ag cs=>some cs
  | _=>none
def spliceC (cs:List C) (o:Nat):List C→List C
  | [d]=>cs.set o d
  | ds=>if o=0∧ds.length=cs.length then ds else cs.take o++ds++cs.drop (o+ds.length)
def splice (cs:List D) (o:Nat):List D→List D
  | [d]=>cs.set o d
  | ds=>if o=0∧ds.length=cs.length then ds else cs.take o++ds++cs.drop (o+ds.length)
def abin (bt:Bool):BinOp→Value→Value→Option Value
  | .add,.int k a,.int k' b=>if k=k' then some (.int k (k.wrap (a+b))) else none
  | .sub,.int k a,.int k' b=>if k=k' then some (.int k (k.wrap (a - b))) else none
  | .mul,.int k a,.int k' b=>if k=k' then some (.int k (k.wrap (a * b))) else none
  | .rem,.int k a,.int k' b=>if k=k'∧b≠0 then some (.int k (a.tmod b)) else none
  | .eql,.int k a,.int k' b=>if k=k' then some (.bool (a==b)) else none
  | .neq,.int k a,.int k' b=>if k=k' then some (.bool (a != b)) else none
  | .lss,.int k a,.int k' b=>if k=k' then some (.bool (decide (a < b))) else none
  | .leq,.int k a,.int k' b=>if k=k' then some (.bool (decide (a≤b))) else none
  | .gtr,.int k a,.int k' b=>if k=k' then some (.bool (decide (a > b))) else none
  | .geq,.int k a,.int k' b=>if k=k' then some (.bool (decide (a≥b))) else none
  | .eql,.string a,.string b=>some (.bool (a.toList==b.toList))
  | .neq,.string a,.string b=>some (.bool (!(a.toList==b.toList)))
  | .lss,.string a,.string b=>some (.bool (Op.bytesLess a.toList b.toList))
  | .leq,.string a,.string b=>some (.bool (Op.bytesLess a.toList b.toList || a.toList==b.toList))
  | .gtr,.string a,.string b=>some (.bool (!(Op.bytesLess a.toList b.toList || a.toList==b.toList)))
  | .geq,.string a,.string b=>some (.bool (!Op.bytesLess a.toList b.toList))
  | .add,.string a,.string b=>if a.size+b.size≤9223372036854775807 then some (.string (a++b)) else none
  | .eql,.bool a,.bool b=>if bt=true then some (.bool (a==b)) else none
  | .neq,.bool a,.bool b=>if bt=true then some (.bool (!(a==b))) else none
  | .eql,.float k a,.float k' b=>if k=k' then some (.bool (Op.floatEq k a b)) else none
  | .neq,.float k a,.float k' b=>if k=k' then some (.bool (!Op.floatEq k a b)) else none
  | .lss,.float k a,.float k' b=>if k=k' then some (.bool (k.format.order a b==some .lt)) else none
  | .leq,.float k a,.float k' b=>if k=k' then some (.bool (k.format.order a b==some .lt || k.format.order a b==some .eq)) else none
  | .gtr,.float k a,.float k' b=>if k=k' then some (.bool (k.format.order a b==some .gt)) else none
  | .geq,.float k a,.float k' b=>if k=k' then some (.bool (k.format.order a b==some .gt || k.format.order a b==some .eq)) else none
  | .xor,.int k a,.int k' b=>if k=k' then some (.int k (k.wrap (BitVec.ofInt k.bits a ^^^ BitVec.ofInt k.bits b).toNat)) else none
  | .and,.int k a,.int k' b=>if k=k' then some (.int k (k.wrap (BitVec.ofInt k.bits a &&& BitVec.ofInt k.bits b).toNat)) else none
  | .shr,.int k a,.int _ b=>if 0≤b then some (.int k (a.fdiv (2 ^ min b.toNat k.bits))) else none
  | _,_,_=>none
def isTag (n:Nat):Option TyI→Bool
  | some i=>Nat.beq i.tag n
  | none=>false
def aun:UnOp→Value→Option Value
  | .not,.bool b=>some (.bool !b)
  | .neg,.int k n=>some (.int k (k.wrap (0 - n)))
  | _,_=>none
def layF (places:List (Nat × Nat)) (fr:Fr):List (Nat × Operand)→List D→Option (List D)
  | [],cs=>some cs
  | (f,x) :: ps,cs=>match places[f]?,(ev fr x).bind cellsV with
    | some (o,s),some ds=>if ds.length=s∧o+s≤cs.length then layF places fr ps (splice cs o ds) else none
    | _,_=>none
def layR (sz:Nat) (fr:Fr):Nat→List (Nat × Operand)→Option (List (List D))
  | _,[]=>some []
  | n,(i,x) :: ps=>match (ev fr x).bind cellsV with
    | some ds=>if i=n∧ds.length=sz then (layR sz fr (n+1) ps).map (ds :: ·) else none
    | none=>none
def capK (fr:Fr):List Operand→Option (List Nat)
  | []=>some []
  | x :: xs=>match ev fr x with
    | some (.one (.po k 0))=>(capK fr xs).map (k :: ·)
    | _=>none
def optI (fr:Fr):Option Operand→Option (Option Int)
  | none=>some none
  | some x=>((ev fr x).bind intV).map some
def alen (X:Ctx) (t:TypeId) (x:Operand) (fr:Fr) (σ:Obs):Option Out :=
  match X.Ty t,ev fr x with
  | some i,some v=>match strV v with
    | some s=>if i.tag=3 then some ⟨.one (.d (.v (.int .i64 s.size))),fr,σ⟩ else none
    | none=>match rowsV v with
      | some rows=>if i.tag=2 then some ⟨.one (.d (.v (.int .i64 rows.length))),fr,σ⟩ else none
      | none=>none
  | _,_=>none
def amin (x y:Operand) (fr:Fr) (σ:Obs):Option Out :=
  match ev fr x,ev fr y with
  | some (.one (.d (.v (.int k a)))),some (.one (.d (.v (.int _ b))))=>some ⟨.one (.d (.v (.int k (if b < a then b else a)))),fr,σ⟩
  | _,_=>none
def amax (x y:Operand) (fr:Fr) (σ:Obs):Option Out :=
  match ev fr x,ev fr y with
  | some (.one (.d (.v (.int k a)))),some (.one (.d (.v (.int _ b))))=>some ⟨.one (.d (.v (.int k (if b > a then b else a)))),fr,σ⟩
  | _,_=>none
def acall (X:Ctx) (c:Call) (fr:Fr) (σ:Obs):Option Out :=
  match c.callee with
  | .builtin b=>match b,c.args.toList,c.argTypes.toList with
    | .len,[x],[t]=>alen X t x fr σ
    | .min,[x,y],_=>amin x y fr σ
    | .max,[x,y],_=>amax x y fr σ
    | _,_,_=>none
  | _=>none
def aop (X:Ctx) (o:Oper) (fr:Fr) (σ:Obs):Option Out :=
  match o.op with
  | .move x | .assign x=>(ev fr x).map fun v=>⟨v,fr,σ⟩
  | .pick c a b=>match ev fr c with
    | some (.one (.d (.v (.bool true))))=>(ev fr a).map fun v=>⟨v,fr,σ⟩
    | some (.one (.d (.v (.bool false))))=>(ev fr b).map fun v=>⟨v,fr,σ⟩
    | _=>none
  | .alloc t=>match o.dst,X.Ty t with
    | some k,some i=>if i.agg=true∨Nat.blt k X.nt=true then some (newOb k (if i.agg=true then .box t (i.zero.map zc) else .cell t (.d (.v (i.zero.headD undef)))) fr σ) else none
    | _,_=>none
  | .box t x=>match o.dst,X.Ty t with
    | some k,some i=>match i.agg,ev (stripF k fr) x with
      | true,some (.dat cs)=>if cs.length=i.size then some (newOb k (.box t cs) fr σ) else none
      | false,some (.one c)=>if Nat.blt k X.nt=true then some (newOb k (.cell t c) fr σ) else none
      | _,_=>none
    | _,_=>none
  | .load t p=>match X.Ty t,ev fr p with
    | some i,some (.one (.po k o))=>match look σ k with
      | some (.box _ cs)=>(loadA i cs o).map fun v=>⟨v,fr,σ⟩
      | some (.cell _ c)=>if i.agg=false∧o=0 then some ⟨.one c,fr,σ⟩ else none
      | some (.obj _ cs)=>(loadC i cs o).map fun v=>⟨v,fr,σ⟩
      | _=>none
    | some i,some (.one (.d (.pi cs)))=>(loadA i cs 0).map fun v=>⟨v,fr,σ⟩
    | _,_=>none
  | .store t p x=>match X.Ty t,ev fr p,ev fr x,o.dst with
    | some i,some (.one (.po k o)),some v,none=>match look σ k with
      | some (.box ty cs)=>match cellsV v with
        | some ds=>if ds.length=i.size∧o+i.size≤cs.length then some ⟨.junk,fr,(k,.box ty (splice cs o ds)) :: σ⟩ else none
        | none=>none
      | some (.cell ty _)=>match v with
        | .one c=>if i.size=1∧o=0 then some ⟨.junk,fr,(k,.cell ty c) :: σ⟩ else none
        | _=>none
      | some (.obj ty cs)=>match cellsC v with
        | some ds=>if ds.length=i.size∧o+i.size≤cs.length then some ⟨.junk,fr,(k,.obj ty (spliceC cs o ds)) :: σ⟩ else none
        | none=>none
      | _=>none
    | _,_,_,_=>none
  | .fieldAddr t p f=>match X.Ty t,ev fr p with
    | some i,some (.one (.po k o))=>match i.places[f]? with
      | some (off,s)=>if s=0∨i.tag≠1 then none else some ⟨.one (.po k (o+off)),fr,σ⟩
      | none=>none
    | some i,some (.one (.d (.pi cs)))=>match i.places[f]? with
      | some (off,s)=>if s=0∨i.tag≠1 then none else some ⟨.one (.d (.pi (cs.drop off))),fr,σ⟩
      | none=>none
    | _,_=>none
  | .indexAddr t x ix=>match X.Ty t,(ev fr x).bind rowsV,(ev fr ix).bind intV with
    | some i,some rows,some n=>match X.Ty i.elem,rows[n.toNat]? with
      | some e,some q=>if 0≤n∧q.length=e.size∧i.tag=2 then some ⟨.one (.d (.pi q)),fr,σ⟩ else none
      | _,_=>none
    | _,_,_=>none
  | .index t x ix=>match X.Ty t,(ev fr x).bind strV,(ev fr ix).bind intV with
    | some i,some s,some n=>match s.data.toList[n.toNat]? with
      | some b=>if 0≤n∧i.tag=3 then some ⟨.one (.d (.v (.int .u8 b.toNat))),fr,σ⟩ else none
      | none=>none
    | _,_,_=>none
  | .binOp op t x y _=>match ev fr x,ev fr y with
    | some (.one (.d (.v a))),some (.one (.d (.v b)))=>(abin (isTag 5 (X.Ty t)) op a b).map fun v=>⟨.one (.d (.v v)),fr,σ⟩
    | _,_=>none
  | .unOp op _ x=>match ev fr x with
    | some (.one (.d (.v a)))=>(aun op a).map fun v=>⟨.one (.d (.v v)),fr,σ⟩
    | _=>none
  | .convert s t x=>match X.Ty s,X.Ty t,ev fr x with
    | some _,some i,some (.one (.d (.v (.int _ n))))=>match i.kind with
      | some k=>some ⟨.one (.d (.v (.int k (k.wrap n)))),fr,σ⟩
      | none=>none
    | _,_,_=>none
  | .build t ps=>match X.Ty t with
    | some i=>if i.tag=1 then (layF i.places fr ps.toList (i.zero.map zc)).map fun cs=>⟨.dat cs,fr,σ⟩ else none
    | none=>none
  | .buildSlice t n ps=>match o.dst,X.Ty t with
    | some k,some i=>match X.Ty i.elem with
      | some e=>match layR e.size (stripF k fr) 0 ps.toList with
        | some rows=>if n=rows.length∧n * e.size≤16777216∧i.tag=2 then some ⟨.one (.own k rows),stripF k fr,(k,.tok i.elem e.size) :: stripS k σ⟩ else none
        | none=>none
      | none=>none
    | _,_=>none
  | .makeFunc fn first caps=>match fn,first.toList with
    | .func f,[]=>(capK fr caps.toList).map fun ks=>⟨.one (.fn f ks),fr,σ⟩
    | _,_=>none
  | .slice t x lo hi none=>match X.Ty t,optI fr lo,optI fr hi,ev fr x with
    | some i,some l,some h,some v=>match strV v with
      | some s=>if i.tag=3∧0≤l.getD 0∧l.getD 0≤h.getD s.size∧h.getD s.size≤s.size then some ⟨.one (.d (.v (.string (s.extract (l.getD 0).toNat (h.getD s.size).toNat)))),fr,σ⟩ else none
      | none=>match rowsV v with
        | some rows=>match X.Ty i.elem with
          | some e=>if i.tag=2∧0≤l.getD 0∧l.getD 0≤h.getD rows.length∧h.getD rows.length≤rows.length∧rows.all (fun q=>Nat.beq q.length e.size)=true then some ⟨.one (.d (.sl ((rows.take (h.getD rows.length).toNat).drop (l.getD 0).toNat))),fr,σ⟩ else none
          | none=>none
        | none=>none
    | _,_,_,_=>none
  | .extract t i=>match ev fr t with
    | some (.tup l)=>match l[i]? with
      | some x=>some ⟨x,fr,σ⟩
      | none=>none
    | _=>none
  | .call c=>acall X c fr σ
  | _=>none
def Sound (X:Ctx) (o:Oper) (fr:Fr) (σ:Obs) (r:Out):Prop :=
  ∀ γ T S w a,Rel X γ T S w fr σ a→ ∃ γ' T' S' w' v,((execOp a.eval o).run X.P w=.ok (.value v) w'∨((execOp a.eval o).run X.P w=.ok .skip w'∧v=undef))∧Rel X γ' T' S' w' r.fr r.σ a∧RV γ' T' S' w' r.x v
end Go.Proofs.YtiplihojmfbjkaaGreat
namespace Go.Proofs.YtiplihojmfbjkaaGreat
open Go.RowKit
section
variable {X:Ctx} {γ γ':Nat→Nat} {T T':Nat→Value} {S S':Nat→Nat→Prop} {w w':World} {fr:Fr} {σ:Obs} {a:Act} {o:Oper}
theorem zb5 {v:Value} (h:isNil v=true):v=.slice none 0 0:=by
  unfold isNil at h
  split at h
  · rfl
  · cases h
theorem RD.nil_:RD S w (.sl []) (.slice none 0 0) :=
  .sl [] none 0 0 (fun _ _=>undef) (by simp) (by simp) (fun _=>rfl) (fun i q h=>by simp at h) (fun i q h=>by simp at h) (fun a h=>by cases h) (fun a h=>by cases h)
theorem RD.zc_ {v:Value} (h:v.oneCell'=true):RD S w (zc v) v:=by
  unfold zc
  split
  · rename_i hn;rw [zb5 hn];exact RD.nil_
  · exact .v v h
theorem RD.nz_ {d:D} {v:Value} (h:RD S w d v):RD S w (nz d) v:=by
  cases d with
  | v x=>cases h with|v _ h=>exact RD.zc_ h
  | sl r=>exact h
  | pi cs=>exact h
  | fn f c=>exact h
theorem RDL.zcs {l:List Value} (h:l.all (·.oneCell')=true):RDL S w (l.map zc) l :=
  ⟨by simp,fun j x hx=>by
    rw [List.getElem?_map,Option.map_eq_some_iff] at hx
    obtain ⟨u,hu,rfl⟩:=hx
    exact ⟨u,hu,RD.zc_ (List.all_eq_true.1 h u (List.mem_of_getElem? hu))⟩⟩
theorem ziP {v:Value} {x:VV} (h:constV v=some x):RV γ T S w x v:=by
  cases v with
  | agg cs =>
    simp only [constV] at h
    split at h
    · rename_i hc
      injection h with h;subst h
      have:=RV.dat (γ:=γ) (T:=T) (RDL.zcs (S:=S) (w:=w) (l:=cs.toList) (by simpa using hc))
      simpa using this
    · cases h
  | tuple vs=>simp only [constV] at h;cases h
  | _=>simp only [constV,Option.some.injEq] at h;subst h;exact .one (.v _ rfl)
theorem zae (h:Rel X γ T S w fr σ a) {x:Operand} {v:VV} (hv:ev fr x=some v):RV γ T S w v (a.eval x):=by
  cases x with
  | tmp t=>exact h.fr t v hv
  | const c=>exact ziP hv
  | func f=>simp only [ev,Option.some.injEq] at hv;subst hv;exact .one rfl
  | global g=>cases hv
theorem cells1v {v:Value} (h:v.oneCell'=true):v.cells = #[v]:=by cases v<;>first|rfl|cases h
def RCL (γ:Nat→Nat) (T:Nat→Value) (S:Nat→Nat→Prop) (w:World) (cs:List C) (us:List Value):Prop:=us.length=cs.length∧ ∀ (j:Nat) (c:C),cs[j]?=some c→ ∃ u,us[j]?=some u∧RC γ T S w c u∧u.oneCell'=true
theorem RCL.take {cs:List C} {us:List Value} (h:RCL γ T S w cs us) (n:Nat):RCL γ T S w (cs.take n) (us.take n) :=
  ⟨by simp [h.1],fun j x hx=>by
    rw [List.getElem?_take] at hx ⊢
    split at hx
    · rename_i hj;simp only [if_pos hj];exact h.2 j x hx
    · cases hx⟩
theorem RCL.drop {cs:List C} {us:List Value} (h:RCL γ T S w cs us) (n:Nat):RCL γ T S w (cs.drop n) (us.drop n) :=
  ⟨by simp [h.1],fun j x hx=>by rw [List.getElem?_drop] at hx ⊢;exact h.2 _ x hx⟩
theorem RCL.app {d1 d2:List C} {u1 u2:List Value} (h:RCL γ T S w d1 u1) (k:RCL γ T S w d2 u2):RCL γ T S w (d1++d2) (u1++u2) :=
  ⟨by simp [h.1,k.1],fun j x hx=>by
    by_cases hj:j < d1.length
    · rw [List.getElem?_append_left hj] at hx
      rw [List.getElem?_append_left (by rw [h.1];exact hj)]
      exact h.2 j x hx
    · rw [List.getElem?_append_right (by omega)] at hx
      rw [List.getElem?_append_right (by rw [h.1];omega),h.1]
      exact k.2 _ x hx⟩
theorem RCL.all1 {cs:List C} {us:List Value} (h:RCL γ T S w cs us):∀ u∈us,u.oneCell'=true:=by
  intro u hu
  obtain ⟨j,hj,rfl⟩:=List.mem_iff_getElem.1 hu
  have hd:cs[j]?=some (cs[j]'(by rw [← h.1];exact hj)):=List.getElem?_eq_getElem _
  obtain ⟨u',hu',_,hr⟩:=h.2 j _ hd
  rw [List.getElem?_eq_getElem hj] at hu'
  injection hu' with hu'
  rw [hu'];exact hr
theorem RCL.of_RDL {ds:List D} {us:List Value} (h:RDL S w ds us):RCL γ T S w (ds.map .d) us :=
  ⟨by rw [List.length_map];exact h.1,fun j c hc=>by
    rw [List.getElem?_map,Option.map_eq_some_iff] at hc
    obtain ⟨x,hx,rfl⟩:=hc
    obtain ⟨u,hu,hr⟩:=h.2 j x hx
    exact ⟨u,hu,hr,hr.one⟩⟩
theorem zjk {c:C} {d:D} (h:dataC c=some d) {v:Value} (hv:RC γ T S w c v):RD S w d v:=by
  cases c with
  | d x=>simp only [dataC,Option.some.injEq] at h;subst h;exact hv
  | own k r=>simp only [dataC,Option.some.injEq] at h;subst h;exact hv.1
  | _=>cases h
theorem zb7:∀ {cs:List C} {ds:List D},dataCs cs=some ds→ ∀ {us:List Value},RCL γ T S w cs us→RDL S w ds us
  | [],ds,h,us,hr=>by
    simp only [dataCs,Option.some.injEq] at h;subst h
    obtain rfl:us=[]:=List.length_eq_zero_iff.1 hr.1
    exact .nil
  | c :: cs,ds,h,us,hr=>by
    simp only [dataCs] at h
    split at h
    · rename_i d ds' h1 h2
      injection h with h;subst h
      cases us with
      | nil=>have:=hr.1;simp at this
      | cons u us =>
        refine .cons ?_ (zb7 h2 ⟨by have:=hr.1;simpa using this,fun j c hc=>hr.2 (j+1) c (by simpa using hc)⟩)
        obtain ⟨u',hu',hc,_⟩:=hr.2 0 c rfl
        injection hu' with hu';subst hu'
        exact zjk h1 hc
    · cases h
theorem zcG {x:VV} {ds:List D} (h:cellsV x=some ds) {v:Value} (hv:RV γ T S w x v):RDL S w ds v.cells.toList:=by
  cases x with
  | one c =>
    cases hv with
    | one hv =>
      cases c with
      | d x=>simp only [cellsV,Option.some.injEq] at h;subst h;rw [cells1v (RD.one hv)];exact (RD.nz_ hv |> fun k=>.cons k .nil)
      | own k r=>simp only [cellsV,Option.some.injEq] at h;subst h;rw [cells1v (RD.one hv.1)];exact .cons hv.1 .nil
      | po k o=>cases h
      | mr k=>cases h
      | que k sz tot r=>cases h
      | fn f c=>cases h
      | win k lo n c sz=>cases h
      | pe k i o sz=>cases h
      | any=>cases h
  | dat cs=>cases hv with|dat hv=>simp only [cellsV,Option.some.injEq] at h;subst h;simpa [Value.cells] using hv
  | tup l=>cases h
  | ag cs =>
    cases hv with
    | ag _ us len val=>exact zb7 h ⟨by simpa [Value.cells] using len,fun j c hc=>let ⟨u,h1,h2⟩:=val j c hc;⟨u,by simpa [Value.cells] using h1,h2,h2.one⟩⟩
  | junk=>cases h
theorem zi3 {cs:List C} {us:List Value} (h:RCL γ T S w cs us):RV γ T S w (partC cs) (.agg us.toArray):=by
  unfold partC
  split
  · rename_i ds hd;exact .dat (zb7 hd h)
  · exact .ag cs us h.1 fun j c hc=>let ⟨u,h1,h2,_⟩:=h.2 j c hc;⟨u,h1,h2⟩
theorem ze6 {x:VV} {ds:List C} (h:cellsC x=some ds) {v:Value} (hv:RV γ T S w x v):RCL γ T S w ds v.cells.toList:=by
  have one:∀ {c:C} {v:Value},RC γ T S w c v→RCL γ T S w [c] v.cells.toList:=fun {c v} hc=>by
    rw [cells1v hc.one]
    exact ⟨rfl,fun j c' hj=>by
      cases j with
      | zero=>simp only [List.getElem?_cons_zero,Option.some.injEq] at hj;subst hj;exact ⟨v,rfl,hc,hc.one⟩
      | succ j=>simp at hj⟩
  unfold cellsC at h
  split at h
  · injection h with h;subst h
    cases hv with|one hv=>exact one (c:=.d _) (RD.nz_ hv)
  · injection h with h;subst h
    cases hv with|one hv=>exact one hv
  · injection h with h;subst h
    cases hv with|dat hv=>exact .of_RDL (by simpa [Value.cells] using hv)
  · injection h with h;subst h
    cases hv with
    | ag _ us len val =>
      exact ⟨by simpa [Value.cells] using len,fun j c hc=>let ⟨u,h1,h2⟩:=val j c hc;⟨u,by simpa [Value.cells] using h1,h2,h2.one⟩⟩
  · cases h
theorem zaR {x:VV} {rows:List (List D)} (h:rowsV x=some rows) {v:Value} (hv:RV γ T S w x v):RD S w (.sl rows) v:=by
  cases x with
  | one c =>
    cases hv with
    | one hv =>
      cases c with
      | d x =>
        cases x with
        | v y =>
          simp only [rowsV] at h
          split at h
          · rename_i hn;injection h with h;subst h;cases hv with|v _ _=>rw [zb5 hn];exact RD.nil_
          · cases h
        | sl r=>simp only [rowsV,Option.some.injEq] at h;subst h;exact hv
        | pi cs=>cases h
        | fn f c=>cases h
      | own k r=>simp only [rowsV,Option.some.injEq] at h;subst h;exact hv.1
      | po k o=>cases h
      | mr k=>cases h
      | que k sz tot r=>simp only [rowsV,Option.some.injEq] at h;subst h;exact hv.que_rows
      | fn f c=>cases h
      | win k lo n c sz=>cases h
      | pe k i o sz=>cases h
      | any=>cases h
  | dat cs=>cases h
  | tup l=>cases h
  | ag cs=>cases h
  | junk=>cases h
theorem zeb {x:VV} {s:ByteArray} (h:strV x=some s) {v:Value} (hv:RV γ T S w x v):v=.string s:=by
  unfold strV at h
  split at h
  · injection h with h;subst h;cases hv with|one hv=>cases hv with|v _ _=>rfl
  · cases h
theorem zcd {x:VV} {n:Int} (h:intV x=some n) {v:Value} (hv:RV γ T S w x v):∃ k,v=.int k n:=by
  unfold intV at h
  split at h
  · injection h with h;subst h;cases hv with|one hv=>cases hv with|v _ _=>exact ⟨_,rfl⟩
  · cases h
theorem zaw {x v:Value} (hv:RV γ T S w (.one (.d (.v x))) v):v=x:=by
  cases hv with|one hv=>cases hv with|v _ _=>rfl
def PureS (X:Ctx) (o:Oper) (fr:Fr) (σ:Obs) (r:Out):Prop :=
  ∃ x,r=⟨x,fr,σ⟩∧ ∀ γ T S w a,Rel X γ T S w fr σ a→ ∃ v,(execOp a.eval o).run X.P w=.ok (.value v) w∧RV γ T S w x v
theorem zaA {x:VV} (h:∀ γ T S w a,Rel X γ T S w fr σ a→ ∃ v,(execOp a.eval o).run X.P w=.ok (.value v) w∧RV γ T S w x v):PureS X o fr σ ⟨x,fr,σ⟩:=⟨x,rfl,h⟩
theorem PureS.sound {r:Out} (h:PureS X o fr σ r):Sound X o fr σ r:=by
  obtain ⟨x,rfl,h⟩:=h
  exact fun γ T S w a hr=>let ⟨v,h1,h2⟩:=h γ T S w a hr;⟨γ,T,S,w,v,.inl h1,hr,h2⟩
theorem zaP {P:Program} {t:TypeId} {inf:TypeInfo} (h:P.info? t=some inf) (w:World):(sizeOf t).run P w=.ok inf.size w:=by simp [sizeOf,typeInfo,h]
theorem zes {P:Program} {t:TypeId} {inf:TypeInfo} {z:Value} (h:P.info? t=some inf) (hz:inf.zero=some z) (w:World):(zeroValue t).run P w=.ok z w:=by simp [zeroValue,typeInfo,h,hz]
theorem zdo (P:Program) (b o:Nat) (us:List Value) (hc:∀ (j:Nat) (u:Value),us[j]?=some u→w.cell? ⟨b,o+j,none⟩=some u):(loadCells ⟨b,o,none⟩ us.length).run P w=.ok us.toArray w :=
  run_loadCells_list (P:=P) w ⟨b,o,none⟩ us fun j v hj=>by rw [Addr.add_lit];exact hc j v hj
theorem ze2 {t:TypeId} {i:TyI} (hi:TyOK X.P t i) {cs:List D} {us:List Value} (hr:RDL S w cs us) (b off o:Nat) (hc:∀ (j:Nat) (u:Value),us[j]?=some u→w.cell? ⟨b,off+j,none⟩=some u) {x:VV} (hx:loadA i cs o=some x) :
    ∃ v,(loadVar t ⟨b,off+o,none⟩).run X.P w=.ok v w∧RV γ T S w x v:=by
  obtain ⟨inf,d,h1,h2,h3,h4,h5,h6,_⟩:=hi.get
  have hagg:(isAgg t).run X.P w=.ok i.agg w:=by
    unfold isAgg
    rw [Sem.run_bind,run_underlying h2 w,← h6]
    cases d<;>rfl
  have hwhole:∀ (n:Nat),n=i.size→o+n≤cs.length→i.agg=true→ ∃ v,(loadVar t ⟨b,off+o,none⟩).run X.P w=.ok v w∧RV γ T S w (.dat ((cs.drop o).take n)) v:=by
    intro n hn hle ha
    have hl:((us.drop o).take n).length=n:=by rw [List.length_take,List.length_drop,hr.1];omega
    have hcell:=zdo (w:=w) X.P b (off+o) ((us.drop o).take n) (fun j u hj=>by
      have hj2:us[o+j]?=some u:=by
        rw [List.getElem?_take] at hj
        split at hj
        · rwa [List.getElem?_drop] at hj
        · cases hj
      rw [Nat.add_assoc];exact hc _ _ hj2)
    rw [hl] at hcell
    refine ⟨.agg ((us.drop o).take n).toArray,?_,.dat ((hr.drop o).take n)⟩
    simp only [loadVar,Sem.run_bind,hagg,ha,Result.andThen_ok,if_true,zaP h1,Sem.run_pure,h3,← hn,hcell]
  unfold loadA at hx
  split at hx
  · rename_i ha
    split at hx
    · rename_i hw
      injection hx with hx;subst hx
      obtain ⟨v,hv1,hv2⟩:=hwhole i.size rfl (by omega) ha
      refine ⟨v,hv1,?_⟩
      rw [hw.1,List.drop_zero,List.take_of_length_le (by omega)] at hv2
      exact hv2
    · split at hx
      · rename_i hle
        injection hx with hx;subst hx
        exact hwhole i.size rfl hle ha
      · cases hx
  · rename_i ha
    split at hx
    · rename_i y hy
      injection hx with hx;subst hx
      obtain ⟨u,hu,hru⟩:=hr.2 o y hy
      refine ⟨u,?_,.one hru⟩
      have:=hc o u hu
      simp only [Bool.not_eq_true] at ha
      simp only [loadVar,Sem.run_bind,hagg,ha,Result.andThen_ok,load,Sem.run,this,Bool.false_eq_true,if_false]
    · cases hx
theorem zhj {t:TypeId} {i:TyI} (hi:TyOK X.P t i) {cs:List C} {us:List Value} (hr:RCL γ T S w cs us) (b o:Nat) (hc:∀ (j:Nat) (u:Value),us[j]?=some u→w.cell? ⟨b,j,none⟩=some u) {x:VV} (hx:loadC i cs o=some x) :
    ∃ v,(loadVar t ⟨b,o,none⟩).run X.P w=.ok v w∧RV γ T S w x v:=by
  obtain ⟨inf,d,h1,h2,h3,h4,h5,h6,_⟩:=hi.get
  have hagg:(isAgg t).run X.P w=.ok i.agg w:=by
    unfold isAgg
    rw [Sem.run_bind,run_underlying h2 w,← h6]
    cases d<;>rfl
  have hwhole:o+i.size≤cs.length→i.agg=true→ ∃ v,(loadVar t ⟨b,o,none⟩).run X.P w=.ok v w∧RV γ T S w (partC ((cs.drop o).take i.size)) v:=by
    intro hle ha
    have hl:((us.drop o).take i.size).length=i.size:=by rw [List.length_take,List.length_drop,hr.1];omega
    have hcell:=zdo (w:=w) X.P b o ((us.drop o).take i.size) (fun j u hj=>by
      have hj2:us[o+j]?=some u:=by
        rw [List.getElem?_take] at hj
        split at hj
        · rwa [List.getElem?_drop] at hj
        · cases hj
      exact hc _ _ hj2)
    rw [hl] at hcell
    refine ⟨.agg ((us.drop o).take i.size).toArray,?_,zi3 ((hr.drop o).take i.size)⟩
    simp only [loadVar,Sem.run_bind,hagg,ha,Result.andThen_ok,if_true,zaP h1,Sem.run_pure,h3,hcell]
  unfold loadC at hx
  split at hx
  · rename_i ha
    split at hx
    · rename_i hw
      injection hx with hx;subst hx
      obtain ⟨v,hv1,hv2⟩:=hwhole (by omega) ha
      refine ⟨v,hv1,?_⟩
      rw [hw.1,List.drop_zero,List.take_of_length_le (by omega)] at hv2
      exact hv2
    · split at hx
      · rename_i hle
        injection hx with hx;subst hx
        exact hwhole hle ha
      · cases hx
  · rename_i ha
    split at hx
    · rename_i y hy
      injection hx with hx;subst hx
      obtain ⟨u,hu,hru,_⟩:=hr.2 o y hy
      refine ⟨u,?_,.one hru⟩
      have:=hc o u hu
      simp only [Bool.not_eq_true] at ha
      simp only [loadVar,Sem.run_bind,hagg,ha,Result.andThen_ok,load,Sem.run,this,Bool.false_eq_true,if_false]
    · cases hx
theorem zf6 (hT:∀ t i,X.Ty t=some i→TyOK X.P t i) {t:TypeId} {p:Operand} {r:Out} (ho:o.op=.load t p) (h:aop X o fr σ=some r):PureS X o fr σ r:=by
  unfold aop at h
  simp only [ho] at h
  cases hi:X.Ty t with
  | none=>simp [hi] at h
  | some i =>
    simp only [hi] at h
    have hok:=hT t i hi
    split at h
    · rename_i i' k off hii hp
      injection hii with hii;subst hii
      split at h
      · rename_i ty cs hl
        rw [Option.map_eq_some_iff] at h
        obtain ⟨x,hx,rfl⟩:=h
        refine zaA fun γ T S w a hr=>?_
        obtain ⟨us,h1,h2,_,_⟩:=hr.st.obj k _ hl
        have hpv:=zae hr hp
        cases hpv with
        | one hpv =>
          obtain ⟨v,hv1,hv2⟩:=ze2 (γ:=γ) (T:=T) hok h2 (γ k) 0 off (fun j u hj=>by rw [cell_of_row w _ _ _ _ _ h1];simpa using hj) hx
          rw [Nat.zero_add] at hv1
          refine ⟨v,?_,hv2⟩
          simp only [execOp,ho,show a.eval p=_ from hpv,Instr.loadAt,Instr.sureAddr,Sem.run_bind,Sem.run_pure,Result.andThen_ok,hv1]
      · rename_i ty c hl
        split at h
        · rename_i hc
          injection h with h;subst h
          refine zaA fun γ T S w a hr=>?_
          obtain ⟨u,h1,h2,h3,_⟩:=hr.st.obj k _ hl
          have hpv:=zae hr hp
          obtain ⟨inf,d,e1,e2,e3,e4,e5,e6,_⟩:=hok.get
          have hagg:(isAgg t).run X.P w=.ok false w:=by
            unfold isAgg
            rw [Sem.run_bind,run_underlying e2 w,← hc.1,← e6]
            cases d<;>rfl
          have hcell:w.cell? ⟨γ k,0,none⟩=some u:=by rw [cell_of_row w _ _ _ _ _ h1];rfl
          cases hpv with
          | one hpv =>
            refine ⟨u,?_,.one h2⟩
            have e:a.eval p=.pointer (some ⟨γ k,0,none⟩):=by rw [← hc.2];exact hpv
            simp only [execOp,ho,e,Instr.loadAt,Instr.sureAddr,loadVar,load,Sem.run,Sem.run_bind,Sem.run_pure,Result.andThen_ok,hagg,hcell,Bool.false_eq_true,if_false]
        · cases h
      · rename_i ty cs hl
        rw [Option.map_eq_some_iff] at h
        obtain ⟨x,hx,rfl⟩:=h
        refine zaA fun γ T S w a hr=>?_
        obtain ⟨us,h1,h2,_,_⟩:=hr.st.obj k _ hl
        have hpv:=zae hr hp
        cases hpv with
        | one hpv =>
          obtain ⟨v,hv1,hv2⟩:=zhj (γ:=γ) (T:=T) hok h2 (γ k) off (fun j u hj=>by rw [cell_of_row w _ _ _ _ _ h1];simpa using hj) hx
          refine ⟨v,?_,hv2⟩
          simp only [execOp,ho,show a.eval p=_ from hpv,Instr.loadAt,Instr.sureAddr,Sem.run_bind,Sem.run_pure,Result.andThen_ok,hv1]
      · cases h
    · rename_i i' cs hii hp
      injection hii with hii;subst hii
      rw [Option.map_eq_some_iff] at h
      obtain ⟨x,hx,rfl⟩:=h
      refine zaA fun γ T S w a hr=>?_
      have hpv:=zae hr hp
      cases hpv with
      | one hpv =>
        generalize he:a.eval p=pv at hpv
        cases hpv with
        | pi _ ad vs spot val mem =>
          have h2:RDL S w cs ((List.range cs.length).map vs):=⟨by simp,fun j y hy=>⟨vs j,by simp [(List.getElem?_eq_some_iff.1 hy).1],val j y hy⟩⟩
          obtain ⟨b,off,sp⟩:=ad
          simp only at spot mem
          subst spot
          obtain ⟨v,hv1,hv2⟩:=ze2 (γ:=γ) (T:=T) hok h2 b off 0 (fun j u hj=>by
            rw [List.getElem?_map,Option.map_eq_some_iff] at hj
            obtain ⟨j',hj',rfl⟩:=hj
            have hlt:j < cs.length:=by have:=(List.getElem?_eq_some_iff.1 hj').1;simpa using this
            rw [List.getElem?_range hlt] at hj'
            injection hj' with hj';subst hj'
            exact (mem j hlt).2) hx
          refine ⟨v,?_,hv2⟩
          simp only [execOp,ho,he,Instr.loadAt,Instr.sureAddr,Sem.run_bind,Sem.run_pure,Result.andThen_ok]
          rw [Nat.add_zero] at hv1
          simp only [hv1,Result.andThen_ok]
    · cases h
end
end Go.Proofs.YtiplihojmfbjkaaGreat
