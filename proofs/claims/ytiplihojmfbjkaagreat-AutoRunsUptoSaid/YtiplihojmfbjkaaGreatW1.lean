/- Abstract data and memory: what a function's own values say,with no addresses;and when a world bears them. -/
import Derived.Below
import Derived.Orders
import Derived.Great.FillDense
import Derived.WalkKit
import Derived.KernelRfl
namespace Go.Proofs.YtiplihojmfbjkaaGreat
open Go.RowKit
theorem enA {P Q:Prop} (k:Q) (h:Q→P:=by intro k;simp only [argsF,List.zipIdx_cons,List.zipIdx_nil,List.map_cons,List.map_nil,Nat.zero_add];exact k):P:=h k
theorem strxA {α:Type} {a b:α} (h:a=b:=by first|((try simp only [za2,za9,zaN,zba,stripV,plainV,List.all_cons,List.all_nil,Bool.and_self,stripC,stripO,stripA,zaW,zaS,zbx,za8,Nat.reduceEqDiff,if_false,if_true,reduceIte,List.contains_nil,List.contains_cons,Nat.reduceBEq,Bool.or_false,Bool.false_eq_true,Bool.or_true])<;>rfl)|rfl):a=b:=h
theorem lenA {α:Type} {l:List α} {n:Nat} (h:l.length=n:=by first|rfl|exact zal _|exact zan _|exact zby _|(simp only [zal];done)|(simp only [zan])):l.length=n:=h
theorem leA {a b:Nat} (h:a≤b:=by first|decide|exact Nat.le_of_ble_eq_true rfl|(simp only [List.length_map];decide)):a≤b:=h
inductive D where
  | v (x:Value)
  | sl (rows:List (List D))
  | pi (cs:List D)
  | fn (f:FuncId) (caps:List (List D))
instance:Inhabited D:=⟨.v undef⟩
inductive RD (S:Nat→Nat→Prop) (w:World):D→Value→Prop
  | v (x:Value) (h:x.oneCell'=true):RD S w (.v x) x
  | sl (rows:List (List D)) (A:Option Addr) (c sz:Nat) (vs:Nat→Nat→Value)
      (cap:rows.length≤c) (lim:rows.length≤281474976710656) (nil:A=none→rows=[])
      (row:∀ (i:Nat) (q:List D),rows[i]?=some q→q.length=sz)
      (val:∀ (i:Nat) (q:List D),rows[i]?=some q→ ∀ (j:Nat) (x:D),q[j]?=some x→RD S w x (vs i j))
      (spot:∀ a,A=some a→0 < rows.length→a.spot=none)
      (mem:∀ a,A=some a→ ∀ i,i < rows.length→ ∀ j,j < sz→S a.block (a.off+(i * sz+j))∧w.cell? ⟨a.block,a.off+(i * sz+j),none⟩=some (vs i j)) :
      RD S w (.sl rows) (.slice A rows.length c)
  | pi (cs:List D) (a:Addr) (vs:Nat→Value) (spot:a.spot=none)
      (val:∀ (j:Nat) (x:D),cs[j]?=some x→RD S w x (vs j))
      (mem:∀ j,j < cs.length→S a.block (a.off+j)∧w.cell? ⟨a.block,a.off+j,none⟩=some (vs j)):RD S w (.pi cs) (.pointer (some a))
  | fn (f:FuncId) (caps:List (List D)) (us:List Value) (len:us.length=caps.length)
      (val:∀ (i:Nat) (q:List D) (u:Value),caps[i]?=some q→us[i]?=some u→RD S w (.pi q) u):RD S w (.fn f caps) (.func (.func f) #[] us.toArray)
def Kp (S:Nat→Nat→Prop) (w w':World):Prop:=∀ b o x,S b o→w.cell? ⟨b,o,none⟩=some x→w'.cell? ⟨b,o,none⟩=some x
section
variable {S S':Nat→Nat→Prop} {w w':World}
theorem Kp.refl:Kp S w w:=fun _ _ _ _ h=>h
theorem Kp.trans {w2:World} (h:Kp S w w') (k:Kp S w' w2):Kp S w w2:=fun b o x hs hc=>k b o x hs (h b o x hs hc)
theorem RD.mono (hS:∀ b o,S b o→S' b o) (hk:Kp S w w') {d:D} {v:Value} (h:RD S w d v):RD S' w' d v:=by
  induction h with
  | v x h=>exact .v x h
  | sl rows A c sz vs cap lim nil row val spot mem ih=>exact .sl rows A c sz vs cap lim nil row ih spot fun a ha i hi j hj=>⟨hS _ _ (mem a ha i hi j hj).1,hk _ _ _ (mem a ha i hi j hj).1 (mem a ha i hi j hj).2⟩
  | pi cs a vs spot val mem ih=>exact .pi cs a vs spot ih fun j hj=>⟨hS _ _ (mem j hj).1,hk _ _ _ (mem j hj).1 (mem j hj).2⟩
  | fn f caps us len val ih=>exact .fn f caps us len ih
theorem RD.one {d:D} {v:Value} (h:RD S w d v):v.oneCell'=true:=by
  cases h<;>first|assumption|rfl
end
def RDL (S:Nat→Nat→Prop) (w:World) (ds:List D) (us:List Value):Prop:=us.length=ds.length∧ ∀ (j:Nat) (x:D),ds[j]?=some x→ ∃ u,us[j]?=some u∧RD S w x u
section
variable {S S':Nat→Nat→Prop} {w w':World}
theorem RDL.mono (hS:∀ b o,S b o→S' b o) (hk:Kp S w w') {ds:List D} {us:List Value} (h:RDL S w ds us):RDL S' w' ds us :=
  ⟨h.1,fun j x hx=>let ⟨u,hu,hr⟩:=h.2 j x hx;⟨u,hu,hr.mono hS hk⟩⟩
theorem RDL.nil:RDL S w [] []:=⟨rfl,fun j x h=>by simp at h⟩
theorem RDL.cons {d:D} {ds:List D} {u:Value} {us:List Value} (h:RD S w d u) (k:RDL S w ds us):RDL S w (d :: ds) (u :: us) :=
  ⟨by simp [k.1],fun j x hx=>by
    cases j with
    | zero=>simp only [List.getElem?_cons_zero,Option.some.injEq] at hx;subst hx;exact ⟨u,rfl,h⟩
    | succ j=>exact k.2 j x (by simpa using hx)⟩
theorem RDL.app {d1 d2:List D} {u1 u2:List Value} (h:RDL S w d1 u1) (k:RDL S w d2 u2):RDL S w (d1++d2) (u1++u2) :=
  ⟨by simp [h.1,k.1],fun j x hx=>by
    by_cases hj:j < d1.length
    · rw [List.getElem?_append_left hj] at hx
      rw [List.getElem?_append_left (by rw [h.1];exact hj)]
      exact h.2 j x hx
    · rw [List.getElem?_append_right (by omega)] at hx
      rw [List.getElem?_append_right (by rw [h.1];omega),h.1]
      exact k.2 _ x hx⟩
theorem RDL.take {ds:List D} {us:List Value} (h:RDL S w ds us) (n:Nat):RDL S w (ds.take n) (us.take n) :=
  ⟨by simp [h.1],fun j x hx=>by
    rw [List.getElem?_take] at hx ⊢
    split at hx
    · rename_i hj;simp only [if_pos hj];exact h.2 j x hx
    · cases hx⟩
theorem RDL.drop {ds:List D} {us:List Value} (h:RDL S w ds us) (n:Nat):RDL S w (ds.drop n) (us.drop n) :=
  ⟨by simp [h.1],fun j x hx=>by rw [List.getElem?_drop] at hx ⊢;exact h.2 _ x hx⟩
theorem RDL.all1 {ds:List D} {us:List Value} (h:RDL S w ds us):∀ u∈us,u.oneCell'=true:=by
  intro u hu
  obtain ⟨j,hj,rfl⟩:=List.mem_iff_getElem.1 hu
  have hd:ds[j]?=some (ds[j]'(by rw [← h.1];exact hj)):=List.getElem?_eq_getElem _
  obtain ⟨u',hu',hr⟩:=h.2 j _ hd
  rw [List.getElem?_eq_getElem hj] at hu'
  injection hu' with hu'
  rw [hu'];exact hr.one
end
inductive C where
  | d (x:D)
  | own (k:Nat) (rows:List (List D))
  | po (k o:Nat)
  | mr (k:Nat)
  | que (k sz tot:Nat) (rows:List (List D))
  | fn (f:FuncId) (cap:List Nat)
  | win (k lo n c sz:Nat)
  | pe (k i o sz:Nat)
  | any
instance:Inhabited C:=⟨.d default⟩
inductive VV where
  | one (c:C)
  | dat (cs:List D)
  | tup (l:List VV)
  | ag (cs:List C)
  | junk
instance:Inhabited VV:=⟨.junk⟩
inductive Ob where
  | box (ty:TypeId) (cs:List D)
  | cell (ty:TypeId) (c:C)
  | tok (e:TypeId) (sz:Nat)
  | arr (e:TypeId) (sz:Nat) (rows:List (List D))
  | obj (ty:TypeId) (cs:List C)
  | mp (es:List (Value × VV))
  | junk
instance:Inhabited Ob:=⟨.junk⟩
def tailV (p sz:Nat):Value→Value
  | .slice (some a) n c=>.slice (some { a with off:=a.off+p * sz }) (n - p) (c - p)
  | v=>v
def RC (γ:Nat→Nat) (T:Nat→Value) (S:Nat→Nat→Prop) (w:World):C→Value→Prop
  | .d x,v=>RD S w x v
  | .own k rows,v=>RD S w (.sl rows) v∧T k=v
  | .po k o,v=>v=.pointer (some ⟨γ k,o,none⟩)
  | .mr k,v=>v=.map (some (γ k))
  | .que k sz tot rows,v=>∃ pre:List (List D),pre.length+rows.length≤tot∧pre.all (fun q=>Nat.beq q.length sz)=true∧RD S w (.sl (pre++rows)) (T k)∧(v=tailV pre.length sz (T k)∨(rows=[]∧ ∃ a,v=.slice (some a) 0 0))
  | .fn f cap,v=>v=.func (.func f) #[] (cap.map fun k=>Value.pointer (some ⟨γ k,0,none⟩)).toArray
  | .win k lo n c sz,v=>v=.slice (some ⟨γ k,lo * sz,none⟩) n c
  | .pe k i o sz,v=>v=.pointer (some ⟨γ k,i * sz+o,none⟩)
  | .any,v=>v.oneCell'=true
inductive RV (γ:Nat→Nat) (T:Nat→Value) (S:Nat→Nat→Prop) (w:World):VV→Value→Prop
  | one {c:C} {v:Value} (h:RC γ T S w c v):RV γ T S w (.one c) v
  | dat {cs:List D} {us:List Value} (h:RDL S w cs us):RV γ T S w (.dat cs) (.agg us.toArray)
  | tup (l:List VV) (us:List Value) (len:us.length=l.length) (val:∀ (j:Nat) (x:VV) (u:Value),l[j]?=some x→us[j]?=some u→RV γ T S w x u):RV γ T S w (.tup l) (.tuple us.toArray)
  | ag (cs:List C) (us:List Value) (len:us.length=cs.length) (val:∀ (j:Nat) (c:C),cs[j]?=some c→ ∃ u,us[j]?=some u∧RC γ T S w c u):RV γ T S w (.ag cs) (.agg us.toArray)
  | junk (v:Value):RV γ T S w .junk v
abbrev Fr:=List (Nat × VV)
abbrev Obs:=List (Nat × Ob)
def look {α:Type}:List (Nat × α)→Nat→Option α
  | [],_=>none
  | (k,x) :: l,t=>if k=t then some x else look l t
theorem zeg {α:Type} (t:Nat):look ([]:List (Nat × α)) t=none:=rfl
theorem zap {α:Type} (k:Nat) (x:α) (l:List (Nat × α)) (t:Nat):look ((k,x) :: l) t=if k=t then some x else look l t:=rfl
theorem zh4 {α:Type} (f:α→α) (l:List (Nat × α)) (t:Nat):look (l.map fun p=>(p.1,f p.2)) t=(look l t).map f:=by
  induction l with
  | nil=>rfl
  | cons p l ih=>simp only [List.map_cons,look,ih];split<;>rfl
def stripC (k:Nat):C→Option C
  | .d x=>some (.d x)
  | .own k' r=>if k'=k then some (.d (.sl r)) else some (.own k' r)
  | .po k' o=>if k'=k then none else some (.po k' o)
  | .mr k'=>if k'=k then none else some (.mr k')
  | .que k' sz tot r=>if k'=k then some (.d (.sl r)) else some (.que k' sz tot r)
  | .fn f cap=>if cap.contains k then none else some (.fn f cap)
  | .win k' lo n c sz=>if k'=k then none else some (.win k' lo n c sz)
  | .pe k' i o sz=>if k'=k then none else some (.pe k' i o sz)
  | .any=>some .any
def stripA (k:Nat) (c:C):C:=match stripC k c with|some c'=>c'|none=>.any
def stripL (k:Nat) (cs:List C):List C:=cs.map (stripA k)
theorem zaW (k:Nat):stripL k []=[]:=rfl
theorem zaS (k:Nat) (c:C) (cs:List C):stripL k (c :: cs)=stripA k c :: stripL k cs:=rfl
theorem zbx (k:Nat) (ds:List D):stripL k (ds.map C.d)=ds.map C.d:=by
  unfold stripL;rw [List.map_map];rfl
theorem za8 (k:Nat) (a b:List C):stripL k (a++b)=stripL k a++stripL k b:=List.map_append
def plainV:VV→Bool
  | .one (.d _)=>true
  | .dat _=>true
  | _=>false
def stripV (k:Nat):VV→VV
  | .one c=>match stripC k c with|some c'=>.one c'|none=>.junk
  | .dat cs=>.dat cs
  | .tup l=>if l.all plainV=true then .tup l else .junk
  | .ag cs=>.ag (stripL k cs)
  | .junk=>.junk
def stripO (k:Nat):Ob→Ob
  | .box ty cs=>.box ty cs
  | .cell ty c=>match stripC k c with|some c'=>.cell ty c'|none=>.junk
  | .tok e sz=>.tok e sz
  | .arr e sz rows=>.arr e sz rows
  | .obj ty cs=>.obj ty (stripL k cs)
  | .mp es=>.mp es
  | .junk=>.junk
def stripF (k:Nat) (fr:Fr):Fr:=fr.map fun p=>(p.1,stripV k p.2)
def stripS (k:Nat) (σ:Obs):Obs:=σ.map fun p=>(p.1,if p.1=k then .junk else stripO k p.2)
theorem za9 (k:Nat):stripF k []=[]:=rfl
theorem za2 (k t:Nat) (x:VV) (l:Fr):stripF k ((t,x) :: l)=(t,stripV k x) :: stripF k l:=rfl
theorem zba (k:Nat):stripS k []=[]:=rfl
theorem zaN (k t:Nat) (x:Ob) (l:Obs):stripS k ((t,x) :: l)=(t,if t=k then .junk else stripO k x) :: stripS k l:=rfl
theorem zco (k:Nat) (fr:Fr) (t:Nat):look (stripF k fr) t=(look fr t).map (stripV k):=zh4 _ _ _
theorem zar (k:Nat) (σ:Obs) (t:Nat):look (stripS k σ) t=(look σ t).map fun o=>if t=k then .junk else stripO k o:=by
  induction σ with
  | nil=>rfl
  | cons p l ih=>simp only [stripS,List.map_cons,look] at ih ⊢;split<;>simp_all
structure Keep (N:Nat→Prop) (w w':World):Prop where
  os:w'.os=w.os
  tape:w'.tape=w.tape
  output:w'.output=w.output
  size:w.heap.size≤w'.heap.size
  block:∀ k,N k→k < w.heap.size→w'.heap[k]?=w.heap[k]?
theorem Keep.refl (N:Nat→Prop) (w:World):Keep N w w:=⟨rfl,rfl,rfl,Nat.le_refl _,fun _ _ _=>rfl⟩
theorem Keep.trans {N:Nat→Prop} {a b c:World} (h:Keep N a b) (k:Keep N b c):Keep N a c :=
  ⟨k.os.trans h.os,k.tape.trans h.tape,k.output.trans h.output,Nat.le_trans h.size k.size,fun i hi hl=>(k.block i hi (Nat.lt_of_lt_of_le hl h.size)).trans (h.block i hi hl)⟩
theorem Keep.of_below {N:Nat→Prop} {w w':World} (h:Below w.heap.size w w'):Keep N w w':=⟨h.os,h.tape,h.output,h.size,fun k _ hk=>h.block k hk⟩
structure TyI where
  agg:Bool
  size:Nat
  bytes:Nat
  zero:List Value
  elem:TypeId
  places:List (Nat × Nat)
  kind:Option IntKind
  tag:Nat
def tagOf:TypeDesc→Nat
  | .struct _=>1
  | .slice _=>2
  | .string=>3
  | .map _ _=>4
  | .bool=>5
  | _=>0
def aggOf:TypeDesc→Bool
  | .struct _ | .array _ _=>true
  | _=>false
def elemOfD:TypeDesc→TypeId
  | .slice e=>e
  | _=>0
def placesOf (P:Program):TypeDesc→Option (List (Nat × Nat))
  | .struct fs=>fs.toList.mapM (fun f=>(P.info? f.type).map fun i=>(f.offset,i.size))
  | _=>some []
def kindOf:TypeDesc→Option IntKind
  | .int k=>some k
  | _=>none
structure TyOK (P:Program) (t:TypeId) (i:TyI):Prop where
  size:(P.info? t).map (·.size)=some i.size
  bytes:(P.info? t).map (·.bytes)=some i.bytes
  zero:(P.info? t).map (·.zero)=some (some (if i.agg then .agg i.zero.toArray else i.zero.headD undef))
  agg:(P.underlying t).map aggOf=some i.agg
  elem:(P.underlying t).map elemOfD=some i.elem
  places:(P.underlying t).map (placesOf P)=some (some i.places)
  kind:(P.underlying t).map kindOf=some i.kind
  tag:(P.underlying t).map tagOf=some i.tag
  zlen:i.zero.length=i.size
  z1:i.zero.all (·.oneCell')=true
  pos:0 < i.size
  bpos:0 < i.bytes
  sca:i.agg=false→i.size=1
theorem TyOK.get {P:Program} {t:TypeId} {i:TyI} (h:TyOK P t i):∃ inf d,P.info? t=some inf∧P.underlying t=some d∧inf.size=i.size∧inf.bytes=i.bytes∧
    inf.zero=some (if i.agg then .agg i.zero.toArray else i.zero.headD undef)∧aggOf d=i.agg∧elemOfD d=i.elem∧placesOf P d=some i.places∧kindOf d=i.kind∧tagOf d=i.tag:=by
  obtain ⟨h1,h2,h3,h4,h5,h6,h7,h8,_,_,_,_,_⟩:=h
  cases hi:P.info? t with
  | none=>simp [hi] at h1
  | some inf =>
    cases hd:P.underlying t with
    | none=>simp [hd] at h4
    | some d =>
      simp only [hi,hd,Option.map_some,Option.some.injEq] at *
      exact ⟨inf,d,rfl,rfl,h1,h2,h3,h4,h5,h6,h7,h8⟩
structure Ctx where
  P:Program
  Ty:TypeId→Option TyI
  nt:Nat
  w0:World
  N:Nat→Prop
  S0:Nat→Nat→Prop
  pin:Nat→Option Nat
  low:∀ k,k < nt→pin k=none
  df:List Deferred
def fp (γ:Nat→Nat) (T:Nat→Value) (k:Nat):Ob→Nat→Prop
  | .box _ _,b | .cell _ _,b | .arr _ _ _,b | .obj _ _,b | .mp _,b=>b=γ k
  | .tok _ _,b=>(T k).ownBlock=some b
  | .junk,_=>False
def RO (X:Ctx) (γ:Nat→Nat) (T:Nat→Value) (S:Nat→Nat→Prop) (w:World) (k:Nat):Ob→Prop
  | .box ty cs=>∃ us,w.heap[γ k]?=some (.cells us.toArray ty (0,0))∧RDL S w cs us∧(∀ o,¬ S (γ k) o)∧¬ X.N (γ k)
  | .cell ty c=>∃ u,w.heap[γ k]?=some (.cells #[u] ty (0,0))∧RC γ T S w c u∧u.oneCell'=true∧(∀ o,¬ S (γ k) o)∧¬ X.N (γ k)∧ ∀ b,X.pin k=some b→γ k=b
  | .tok e sz=>∃ n xs,w.ownsRow 0 e sz (T k) n xs∧ ∀ g,(T k).ownBlock=some g→¬ X.N g∧ ∀ o,S g o→o < n * sz
  | .arr e sz rows=>∃ us:List Value,w.heap[γ k]?=some (.cells us.toArray e (0,0))∧us.length=rows.length * sz∧(∀ (i:Nat) (q:List D),rows[i]?=some q→q.length=sz∧ ∀ (j:Nat) (x:D),q[j]?=some x→ ∃ u,us[i * sz+j]?=some u∧RD S w x u)∧(∀ o,¬ S (γ k) o)∧¬ X.N (γ k)∧ ∀ b,X.pin k=some b→γ k=b
  | .obj ty cs=>∃ us:List Value,w.heap[γ k]?=some (.cells us.toArray ty (0,0))∧(us.length=cs.length∧ ∀ (j:Nat) (c:C),cs[j]?=some c→ ∃ u,us[j]?=some u∧RC γ T S w c u∧u.oneCell'=true)∧(∀ o,¬ S (γ k) o)∧¬ X.N (γ k)∧ ∀ b,X.pin k=some b→γ k=b
  | .mp es=>∃ (ms:List MapEntry) (clock:Nat),w.heap[γ k]?=some (.map ms.toArray clock)∧(ms.length=es.length∧ ∀ (j:Nat) (p:Value × VV),es[j]?=some p→ ∃ m,ms[j]?=some m∧m.key=p.1∧ ∀ (γ:Nat→Nat) (T:Nat→Value),RV γ T S w p.2 m.val)∧(∀ o,¬ S (γ k) o)∧¬ X.N (γ k)∧ ∀ b,X.pin k=some b→γ k=b
  | .junk=>True
structure St (X:Ctx) (γ:Nat→Nat) (T:Nat→Value) (S:Nat→Nat→Prop) (w:World) (σ:Obs):Prop where
  keep:Keep X.N X.w0 w
  lt:∀ b o,S b o→b < w.heap.size
  nlt:∀ b,X.N b→b < X.w0.heap.size
  set:∀ b o,S b o→X.S0 b o∨¬ X.N b
  mon:(∀ b o,X.S0 b o→S b o)∧Kp X.S0 X.w0 w
  obj:∀ k o,look σ k=some o→RO X γ T S w k o
  dis:∀ k k' o o',look σ k=some o→look σ k'=some o'→k≠k'→ ∀ b,fp γ T k o b→¬ fp γ T k' o' b
structure Rel (X:Ctx) (γ:Nat→Nat) (T:Nat→Value) (S:Nat→Nat→Prop) (w:World) (fr:Fr) (σ:Obs) (a:Act):Prop where
  st:St X γ T S w σ
  fr:∀ t x,look fr t=some x→RV γ T S w x (a.tmps.getD t undef)
  nt:a.tmps.size=X.nt
  df:a.defers=X.df
end Go.Proofs.YtiplihojmfbjkaaGreat
namespace Go.Proofs.YtiplihojmfbjkaaGreat
open Go.RowKit
section
variable {X:Ctx} {γ γ':Nat→Nat} {T T':Nat→Value} {S S':Nat→Nat→Prop} {w w':World} {fr:Fr} {σ:Obs} {a:Act}
theorem zni (p sz:Nat) (v:Value):(tailV p sz v).oneCell'=v.oneCell':=by
  unfold tailV
  split<;>rfl
theorem RD.tail {pre rows:List (List D)} {sz:Nat} {V:Value} (hp:pre.all (fun q=>Nat.beq q.length sz)=true) (h:RD S w (.sl (pre++rows)) V):RD S w (.sl rows) (tailV pre.length sz V):=by
  cases h with
  | sl _ A c sz' vs cap lim nil row val spot mem =>
    cases A with
    | none =>
      obtain ⟨h1,h2⟩:=List.append_eq_nil_iff.1 (nil rfl)
      subst h1;subst h2
      exact .sl [] none c sz' vs cap lim (fun _=>rfl) row val spot mem
    | some a =>
      have hl:(pre++rows).length - pre.length=rows.length:=by simp
      show RD S w (.sl rows) (.slice (some { a with off:=a.off+pre.length * sz }) ((pre++rows).length - pre.length) (c - pre.length))
      rw [hl]
      rw [List.length_append] at cap lim spot
      have hsz:pre=[]∨sz'=sz:=by
        cases pre with
        | nil=>exact .inl rfl
        | cons q l =>
          refine .inr ?_
          rw [← row 0 q rfl]
          exact Nat.eq_of_beq_eq_true (List.all_eq_true.1 hp q (by simp))
      have hoff:∀ i j,a.off+pre.length * sz+(i * sz'+j)=a.off+((i+pre.length) * sz'+j):=by
        intro i j
        rcases hsz with e|e
        · subst e;simp
        · subst e;rw [Nat.add_mul];omega
      refine .sl rows _ (c - pre.length) sz' (fun i j=>vs (i+pre.length) j) (by omega) (by omega) (fun h=>by cases h) (fun i q hq=>row (i+pre.length) q (by rw [List.getElem?_append_right (by omega)];simpa using hq)) (fun i q hq j x hx=>val (i+pre.length) q (by rw [List.getElem?_append_right (by omega)];simpa using hq) j x hx) (fun a' ha hr=>by cases ha;exact spot a rfl (by omega)) fun a' ha i hi j hj=>?_
      cases ha
      have:=mem a rfl (i+pre.length) (by rw [List.length_append];omega) j hj
      simp only [hoff]
      exact this
theorem RC.que_rows {k sz tot:Nat} {rows:List (List D)} {v:Value} (h:RC γ T S w (.que k sz tot rows) v):RD S w (.sl rows) v:=by
  obtain ⟨pre,h1,h2,h3,h4⟩:=h
  rcases h4 with h4 | ⟨h4,a,h5⟩
  · rw [h4];exact RD.tail h2 h3
  · subst h4;subst h5
    exact .sl [] (some a) 0 0 (fun _ _=>undef) (Nat.le_refl _) (Nat.zero_le _) (fun h=>by cases h) (fun i q hq=>by simp at hq) (fun i q hq=>by simp at hq) (fun _ _ h=>absurd h (by decide)) (fun _ _ i hi=>absurd hi (by simp))
theorem RC.mono (hS:∀ b o,S b o→S' b o) (hk:Kp S w w') {c:C} {v:Value} (h:RC γ T S w c v):RC γ T S' w' c v:=by
  cases c with
  | d x=>exact RD.mono hS hk h
  | own k r=>exact ⟨RD.mono hS hk h.1,h.2⟩
  | po k o=>exact h
  | mr k=>exact h
  | que k sz tot r=>obtain ⟨pre,h1,h2,h3,h4⟩:=h;exact ⟨pre,h1,h2,RD.mono hS hk h3,h4⟩
  | fn f cap=>exact h
  | win k lo n c sz=>exact h
  | pe k i o sz=>exact h
  | any=>exact h
theorem RC.one {c:C} {v:Value} (h:RC γ T S w c v):v.oneCell'=true:=by
  cases c with
  | d x=>exact RD.one h
  | own k r=>exact RD.one h.1
  | po k o=>cases h;rfl
  | mr k=>cases h;rfl
  | que k sz tot r =>
    obtain ⟨pre,h1,h2,h3,h4⟩:=h
    rcases h4 with h4 | ⟨_,a,h4⟩
    · rw [h4,zni];exact RD.one h3
    · rw [h4];rfl
  | fn f cap=>cases h;rfl
  | win k lo n c sz=>cases h;rfl
  | pe k i o sz=>cases h;rfl
  | any=>exact h
theorem RV.mono (hS:∀ b o,S b o→S' b o) (hk:Kp S w w') {x:VV} {v:Value} (h:RV γ T S w x v):RV γ T S' w' x v:=by
  induction h with
  | one h=>exact .one (h.mono hS hk)
  | dat h=>exact .dat (h.mono hS hk)
  | tup l us len val ih=>exact .tup l us len ih
  | ag cs us len val=>exact .ag cs us len fun j c hc=>let ⟨u,h1,h2⟩:=val j c hc;⟨u,h1,h2.mono hS hk⟩
  | junk v=>exact .junk v
theorem RC.strip {k:Nat} (hg:∀ j,j≠k→γ' j=γ j) (hT:∀ j,j≠k→T' j=T j) {c c':C} (hc:stripC k c=some c') {v:Value} (h:RC γ T S w c v):RC γ' T' S w c' v:=by
  cases c with
  | d x=>simp only [stripC,Option.some.injEq] at hc;subst hc;exact h
  | own j r =>
    simp only [stripC] at hc
    split at hc<;>injection hc with hc<;>subst hc
    · exact h.1
    · rename_i hne;exact ⟨h.1,(hT j hne).trans h.2⟩
  | po j o =>
    simp only [stripC] at hc
    split at hc
    · cases hc
    · rename_i hne;injection hc with hc;subst hc;cases h;simp only [RC,hg j hne]
  | mr j =>
    simp only [stripC] at hc
    split at hc
    · cases hc
    · rename_i hne;injection hc with hc;subst hc;cases h;simp only [RC,hg j hne]
  | que j sz tot r =>
    simp only [stripC] at hc
    split at hc
    · injection hc with hc;subst hc;exact h.que_rows
    · rename_i hne;injection hc with hc;subst hc;simp only [RC,hT j hne] at h ⊢;exact h
  | fn f cap =>
    simp only [stripC] at hc
    split at hc
    · cases hc
    · rename_i hne;injection hc with hc;subst hc;cases h
      simp only [RC]
      congr 2
      apply List.map_congr_left
      intro j hj
      rw [hg j (fun e=>hne (by subst e;simpa using hj))]
  | win j lo n c sz =>
    simp only [stripC] at hc
    split at hc
    · cases hc
    · rename_i hne;injection hc with hc;subst hc;cases h;simp only [RC,hg j hne]
  | pe j i o sz =>
    simp only [stripC] at hc
    split at hc
    · cases hc
    · rename_i hne;injection hc with hc;subst hc;cases h;simp only [RC,hg j hne]
  | any=>simp only [stripC,Option.some.injEq] at hc;subst hc;exact h
theorem RC.stripA {k:Nat} (hg:∀ j,j≠k→γ' j=γ j) (hT:∀ j,j≠k→T' j=T j) {c:C} {v:Value} (h:RC γ T S w c v):RC γ' T' S w (stripA k c) v:=by
  unfold Go.Proofs.YtiplihojmfbjkaaGreat.stripA
  split
  · rename_i c' hc;exact h.strip hg hT hc
  · exact h.one
theorem RV.strip {k:Nat} (hg:∀ j,j≠k→γ' j=γ j) (hT:∀ j,j≠k→T' j=T j) {x:VV} {v:Value} (h:RV γ T S w x v):RV γ' T' S w (stripV k x) v:=by
  cases x with
  | one c =>
    cases h with
    | one h =>
      simp only [stripV]
      split
      · rename_i c' hc;exact .one (h.strip hg hT hc)
      · exact .junk _
  | dat cs=>cases h with|dat h=>exact .dat h
  | tup l =>
    simp only [stripV]
    split
    · rename_i hl
      cases h with
      | tup _ us len val =>
        refine .tup l us len fun j x u hx hu=>?_
        have h1:=List.all_eq_true.1 hl x (List.mem_of_getElem? hx)
        have h2:=val j x u hx hu
        cases x with
        | one c =>
          cases c with
          | d y=>cases h2 with|one h2=>exact .one h2
          | _=>cases h1
        | dat cs=>cases h2 with|dat h2=>exact .dat h2
        | _=>cases h1
    · exact .junk _
  | ag cs =>
    cases h with
    | ag _ us len val =>
      refine .ag _ us (by unfold stripL;rw [List.length_map];exact len) fun j c hc=>?_
      unfold stripL at hc
      rw [List.getElem?_map,Option.map_eq_some_iff] at hc
      obtain ⟨c0,h1,rfl⟩:=hc
      obtain ⟨u,h2,h3⟩:=val j c0 h1
      exact ⟨u,h2,h3.stripA hg hT⟩
  | junk=>exact .junk _
theorem RO.strip {k j:Nat} (hj:j≠k) (hg:∀ j,j≠k→γ' j=γ j) (hT:∀ j,j≠k→T' j=T j) {o:Ob} (h:RO X γ T S w j o):RO X γ' T' S w j (stripO k o):=by
  cases o with
  | box ty cs=>simp only [stripO,RO,hg j hj] at h ⊢;exact h
  | cell ty c =>
    simp only [stripO]
    split
    · rename_i c' hc
      obtain ⟨u,h1,h2,h3,h4⟩:=h
      simp only [RO,hg j hj]
      exact ⟨u,h1,h2.strip hg hT hc,h3,h4⟩
    · trivial
  | tok e sz=>simp only [stripO,RO,hT j hj] at h ⊢;exact h
  | arr e sz rows=>simp only [stripO,RO,hg j hj] at h ⊢;exact h
  | obj ty cs =>
    obtain ⟨us,h1,⟨h2,h3⟩,h4⟩:=h
    simp only [stripO,RO,hg j hj,stripL]
    refine ⟨us,h1,⟨by rw [List.length_map];exact h2,fun i c hc=>?_⟩,h4⟩
    rw [List.getElem?_map,Option.map_eq_some_iff] at hc
    obtain ⟨c0,q1,rfl⟩:=hc
    obtain ⟨u,q2,q3,q4⟩:=h3 i c0 q1
    exact ⟨u,q2,q3.stripA hg hT,q4⟩
  | mp es =>
    obtain ⟨ms,cl,h1,⟨h2,h3⟩,h4⟩:=h
    simp only [stripO,RO,hg j hj]
    exact ⟨ms,cl,h1,⟨h2,h3⟩,h4⟩
  | junk=>trivial
theorem fp.strip {k j:Nat} (hj:j≠k) (hg:∀ j,j≠k→γ' j=γ j) (hT:∀ j,j≠k→T' j=T j) {o:Ob} {b:Nat} (h:fp γ' T' j (stripO k o) b):fp γ T j o b:=by
  cases o with
  | box ty cs=>simpa only [stripO,fp,hg j hj] using h
  | cell ty c =>
    simp only [stripO] at h
    split at h
    · simpa only [fp,hg j hj] using h
    · exact h.elim
  | tok e sz=>simpa only [stripO,fp,hT j hj] using h
  | arr e sz rows=>simpa only [stripO,fp,hg j hj] using h
  | obj ty cs=>simpa only [stripO,fp,hg j hj] using h
  | mp es=>simpa only [stripO,fp,hg j hj] using h
  | junk=>exact h.elim
theorem Rel.upd (k:Nat) (hg:∀ j,j≠k→γ' j=γ j) (hT:∀ j,j≠k→T' j=T j) (h:Rel X γ T S w fr σ a):Rel X γ' T' S w (stripF k fr) (stripS k σ) a:=by
  obtain ⟨⟨keep,lt,nlt,set,mon,obj,dis⟩,hfr,hn,hd⟩:=h
  have cut:∀ j o,look (stripS k σ) j=some o→(j=k∧o=.junk)∨(j≠k∧ ∃ o',look σ j=some o'∧o=stripO k o'):=by
    intro j o ho
    rw [zar,Option.map_eq_some_iff] at ho
    obtain ⟨o',h1,h2⟩:=ho
    by_cases hj:j=k
    · rw [if_pos hj] at h2;exact .inl ⟨hj,h2.symm⟩
    · rw [if_neg hj] at h2;exact .inr ⟨hj,o',h1,h2.symm⟩
  refine ⟨⟨keep,lt,nlt,set,mon,fun j o ho=>?_,fun i j o o' hi hj hne b hb=>?_⟩,fun t x hx=>?_,hn,hd⟩
  · rcases cut j o ho with ⟨_,rfl⟩ | ⟨hj,o',h1,rfl⟩
    · trivial
    · exact (obj j o' h1).strip hj hg hT
  · rcases cut i o hi with ⟨_,rfl⟩ | ⟨hik,p,h1,rfl⟩
    · exact hb.elim
    · rcases cut j o' hj with ⟨_,rfl⟩ | ⟨hjk,p',h2,rfl⟩
      · exact id
      · exact fun hb'=>dis i j p p' h1 h2 hne b (fp.strip hik hg hT hb) (fp.strip hjk hg hT hb')
  · rw [zco,Option.map_eq_some_iff] at hx
    obtain ⟨x',h1,rfl⟩:=hx
    exact (hfr t x' h1).strip hg hT
theorem za0 {w:World} {b:Nat} {o:Obj} (h:w.heap[b]?=some o):b < w.heap.size:=(Array.getElem?_eq_some_iff.1 h).1
theorem RO.lt {k:Nat} {o:Ob} (h:RO X γ T S w k o) {b:Nat} (hb:fp γ T k o b):b < w.heap.size:=by
  cases o with
  | box ty cs=>obtain ⟨us,h1,_⟩:=h;cases hb;exact za0 h1
  | cell ty c=>obtain ⟨us,h1,_⟩:=h;cases hb;exact za0 h1
  | tok e sz=>obtain ⟨n,xs,h1,_⟩:=h;exact (h1.lt b hb).2
  | arr e sz rows=>obtain ⟨us,h1,_⟩:=h;cases hb;exact za0 h1
  | obj ty cs=>obtain ⟨us,h1,_⟩:=h;cases hb;exact za0 h1
  | mp es=>obtain ⟨us,_,h1,_⟩:=h;cases hb;exact za0 h1
  | junk=>exact hb.elim
theorem RO.free {k:Nat} {o:Ob} (h:RO X γ T S w k o) {b:Nat} (hb:fp γ T k o b):¬ X.N b:=by
  cases o with
  | box ty cs=>obtain ⟨us,_,_,_,h1⟩:=h;cases hb;exact h1
  | cell ty c=>obtain ⟨us,_,_,_,_,h1,_⟩:=h;cases hb;exact h1
  | tok e sz=>obtain ⟨n,xs,_,h1⟩:=h;exact (h1 b hb).1
  | arr e sz rows=>obtain ⟨us,_,_,_,_,h1,_⟩:=h;cases hb;exact h1
  | obj ty cs=>obtain ⟨us,_,_,_,h1,_⟩:=h;cases hb;exact h1
  | mp es=>obtain ⟨us,_,_,_,_,h1,_⟩:=h;cases hb;exact h1
  | junk=>exact hb.elim
theorem RO.kept {k:Nat} {o:Ob} (hS:∀ b o,S b o→S' b o) (hk:Kp S w w') (hb:∀ b,fp γ T k o b→w'.heap[b]?=w.heap[b]?∧ ∀ i,S' b i→S b i) (h:RO X γ T S w k o):RO X γ T S' w' k o:=by
  cases o with
  | box ty cs =>
    obtain ⟨us,h1,h2,h3,h4⟩:=h
    obtain ⟨hb1,hb2⟩:=hb _ rfl
    exact ⟨us,hb1.trans h1,h2.mono hS hk,fun o ho=>h3 o (hb2 o ho),h4⟩
  | cell ty c =>
    obtain ⟨us,h1,h2,h0,h3,h4⟩:=h
    obtain ⟨hb1,hb2⟩:=hb _ rfl
    exact ⟨us,hb1.trans h1,h2.mono hS hk,h0,fun o ho=>h3 o (hb2 o ho),h4⟩
  | tok e sz =>
    obtain ⟨n,xs,h1,h2⟩:=h
    refine ⟨n,xs,⟨h1.1,?_⟩,fun g hg=>⟨(h2 g hg).1,fun o ho=>(h2 g hg).2 o ((hb g hg).2 o ho)⟩⟩
    rcases h1.2 with h3 | ⟨g,cap,cur,hv,hbase,hg,rest⟩
    · exact .inl h3
    · exact .inr ⟨g,cap,cur,hv,hbase,by rw [(hb g (by simp [fp,hv,Value.ownBlock])).1];exact hg,rest⟩
  | arr e sz rows =>
    obtain ⟨us,h1,h2,h3,h4,h5⟩:=h
    obtain ⟨hb1,hb2⟩:=hb _ rfl
    exact ⟨us,hb1.trans h1,h2,fun i q hq=>⟨(h3 i q hq).1,fun j x hx=>let ⟨u,g1,g2⟩:=(h3 i q hq).2 j x hx;⟨u,g1,g2.mono hS hk⟩⟩,fun o ho=>h4 o (hb2 o ho),h5⟩
  | obj ty cs =>
    obtain ⟨us,h1,⟨h2,h3⟩,h4,h5⟩:=h
    obtain ⟨hb1,hb2⟩:=hb _ rfl
    exact ⟨us,hb1.trans h1,⟨h2,fun j c hc=>let ⟨u,g1,g2,g3⟩:=h3 j c hc;⟨u,g1,g2.mono hS hk,g3⟩⟩,fun o ho=>h4 o (hb2 o ho),h5⟩
  | mp es =>
    obtain ⟨ms,cl,h1,⟨h2,h3⟩,h4,h5⟩:=h
    obtain ⟨hb1,hb2⟩:=hb _ rfl
    exact ⟨ms,cl,hb1.trans h1,⟨h2,fun j p hp=>let ⟨m,g1,g2,g3⟩:=h3 j p hp;⟨m,g1,g2,fun γ T=>(g3 γ T).mono hS hk⟩⟩,fun o ho=>h4 o (hb2 o ho),h5⟩
  | junk=>trivial
theorem Kp.of_below (lt:∀ b o,S b o→b < w.heap.size) (hb:Below w.heap.size w w'):Kp S w w':=fun b o x hs hc=>by
  rw [World.cell?_of_block (hb.block b (lt b o hs))];exact hc
theorem Rel.grow (h:Rel X γ T S w fr σ a) (hb:Below w.heap.size w w') (hS:∀ b o,S b o→S' b o) (hS':∀ b o,S' b o→S b o∨(w.heap.size≤b∧b < w'.heap.size)):Rel X γ T S' w' fr σ a:=by
  obtain ⟨⟨keep,lt,nlt,set,mon,obj,dis⟩,hfr,hn,hd⟩:=h
  have hk:Kp S w w':=.of_below lt hb
  have h0:X.w0.heap.size≤w.heap.size:=keep.size
  refine ⟨⟨keep.trans (.of_below hb),fun b o hs=>?_,nlt,fun b o hs=>?_,⟨fun b o hs=>hS _ _ (mon.1 b o hs),fun b o x hs hc=>hk b o x (mon.1 b o hs) (mon.2 b o x hs hc)⟩,fun k o ho=>?_,dis⟩,fun t x hx=>(hfr t x hx).mono hS hk,hn,hd⟩
  · rcases hS' b o hs with h1|h1
    · exact Nat.lt_of_lt_of_le (lt b o h1) hb.size
    · exact h1.2
  · rcases hS' b o hs with h1|h1
    · exact set b o h1
    · exact .inr fun hN=>by have:=nlt b hN;omega
  · refine (obj k o ho).kept hS hk fun b hbb=>⟨hb.block b ((obj k o ho).lt hbb),fun i hi=>?_⟩
    rcases hS' b i hi with h1|h1
    · exact h1
    · have:=(obj k o ho).lt hbb;omega
theorem Rel.add {k:Nat} {ob:Ob} (h:Rel X γ T S w fr σ a) (_hk:∀ o,look σ k=some o→o=.junk) (ho:RO X γ T S w k ob) (hd:∀ b,fp γ T k ob b→ ∀ k' o',look σ k'=some o'→k'≠k→¬ fp γ T k' o' b):Rel X γ T S w fr ((k,ob) :: σ) a:=by
  obtain ⟨⟨keep,lt,nlt,set,mon,obj,dis⟩,hfr,hn,hdf⟩:=h
  refine ⟨⟨keep,lt,nlt,set,mon,fun j o hj=>?_,fun i j o o' hi hj hne b hb=>?_⟩,hfr,hn,hdf⟩
  · simp only [look] at hj
    split at hj
    · rename_i e;injection hj with hj;subst hj;subst e;exact ho
    · exact obj j o hj
  · simp only [look] at hi hj
    split at hi<;>split at hj
    · rename_i e1 e2;exact (hne (e1.symm.trans e2)).elim
    · rename_i e1 e2;injection hi with hi;subst hi;subst e1;exact hd b hb j o' hj (fun e=>hne e.symm)
    · rename_i e1 e2;injection hj with hj;subst hj;subst e2;exact fun hb'=>hd b hb' i o hi hne hb
    · exact dis i j o o' hi hj hne b hb
theorem Rel.sub {fr':Fr} {σ':Obs} (hf:∀ t x,look fr' t=some x→look fr t=some x) (hs:∀ k o,look σ' k=some o→look σ k=some o) (h:Rel X γ T S w fr σ a):Rel X γ T S w fr' σ' a:=by
  obtain ⟨⟨keep,lt,nlt,set,mon,obj,dis⟩,hfr,hn,hdf⟩:=h
  exact ⟨⟨keep,lt,nlt,set,mon,fun k o ho=>obj k o (hs k o ho),fun i j o o' hi hj=>dis i j o o' (hs i o hi) (hs j o' hj)⟩,fun t x hx=>hfr t x (hf t x hx),hn,hdf⟩
def putF (fr:Fr) (dst:Option Nat) (x:VV):Fr:=match dst with|some d=>(d,x) :: fr|none=>fr
theorem zbv (fr:Fr) (d:Nat) (x:VV):putF fr (some d) x=(d,x) :: fr:=rfl
theorem zbL (fr:Fr) (x:VV):putF fr none x=fr:=rfl
def inF (n:Nat):Option Nat→Bool
  | some d=>Nat.blt d n
  | none=>true
theorem Rel.put {x:VV} {v:Value} {dst:Option Nat} (h:Rel X γ T S w fr σ a) (hd:inF X.nt dst=true) (hx:RV γ T S w x v):Rel X γ T S w (putF fr dst x) σ (a.put dst v):=by
  obtain ⟨st,hfr,hn,hdf⟩:=h
  cases dst with
  | none=>exact ⟨st,hfr,hn,hdf⟩
  | some d =>
    have hlt:d < a.tmps.size:=by rw [hn];simpa [inF,Nat.blt_eq] using hd
    refine ⟨st,fun t y hy=>?_,by simpa [Act.put] using hn,hdf⟩
    simp only [putF,look] at hy
    show RV γ T S w y ((a.tmps.setIfInBounds d v).getD t undef)
    rw [Array.getD_eq_getD_getElem?,Array.getElem?_setIfInBounds]
    split at hy
    · rename_i e
      injection hy with hy;subst hy;subst e
      simpa [hlt] using hx
    · rename_i hne
      rw [if_neg hne,← Array.getD_eq_getD_getElem?]
      exact hfr t y hy
theorem RO.below {k:Nat} {o:Ob} (hb:Below w.heap.size w w') (lt:∀ b o,S b o→b < w.heap.size) (h:RO X γ T S w k o):RO X γ T S w' k o :=
  h.kept (fun _ _ hs=>hs) (.of_below lt hb) fun _ hbb=>⟨hb.block _ (h.lt hbb),fun _ hi=>hi⟩
def setK {α:Type} (f:Nat→α) (k:Nat) (x:α):Nat→α:=fun j=>if j=k then x else f j
theorem zaq {α:Type} (f:Nat→α) (k:Nat) (x:α):setK f k x k=x:=by simp [setK]
theorem zaz {α:Type} (f:Nat→α) (k:Nat) (x:α) (j:Nat) (h:j≠k):setK f k x j=f j:=by simp [setK,h]
theorem zbh (w:World) (o:Obj):Below w.heap.size w (w.alloc o):=(Below.refl _ _).alloc (Nat.le_refl _) o
theorem Rel.alloc (k:Nat) (h:Rel X γ T S w fr σ a) (us:List Value) (ty:TypeId) (ob:Ob)
    (ho:∀ γ',(∀ j,j≠k→γ' j=γ j)→γ' k=w.heap.size→RO X γ' T S (w.alloc (.cells us.toArray ty)) k ob) (hf:∀ γ' b,fp γ' T k ob b→b=γ' k) :
    Rel X (setK γ k w.heap.size) T S (w.alloc (.cells us.toArray ty)) (stripF k fr) ((k,ob) :: stripS k σ) a:=by
  have h1:=h.grow (w':=w.alloc (.cells us.toArray ty)) (S':=S) (zbh _ _) (fun _ _ hs=>hs) (fun _ _ hs=>.inl hs)
  have h2:=h1.upd (γ':=setK γ k w.heap.size) (T':=T) k (fun j hj=>zaz _ _ _ _ hj) (fun _ _=>rfl)
  refine h2.add (fun o hl=>?_) (ho _ (fun j hj=>zaz _ _ _ _ hj) (zaq _ _ _)) fun b hb k' o' hl hne hb'=>?_
  · rw [zar,Option.map_eq_some_iff] at hl
    obtain ⟨o',_,h3⟩:=hl
    simpa using h3.symm
  · have e:=hf _ b hb
    rw [zaq] at e
    rw [zar,Option.map_eq_some_iff] at hl
    obtain ⟨o2,h3,h4⟩:=hl
    rw [if_neg hne] at h4
    subst h4
    have h5:=fp.strip (γ:=γ) (T:=T) hne (fun j hj=>zaz _ _ _ _ hj) (fun _ _=>rfl) hb'
    have:=(h.st.obj k' o2 h3).lt h5
    omega
end
end Go.Proofs.YtiplihojmfbjkaaGreat
