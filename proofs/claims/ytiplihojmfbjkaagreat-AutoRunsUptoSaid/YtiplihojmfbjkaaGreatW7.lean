/- Code on abstract values: what it comes to,and the rules by which that is shown. -/
import Derived.Test.YtiplihojmfbjkaaGreatW6
import Derived.LoopN
import Derived.Scope
namespace Go.Proofs.YtiplihojmfbjkaaGreat
open Go.RowKit
section
variable {X:Ctx} {γ γ':Nat→Nat} {T T':Nat→Value} {S S':Nat→Nat→Prop} {w w':World} {fr fr':Fr} {σ σ':Obs} {a:Act} {o:Oper}
def LQ (X:Ctx) (Q:Exit→Fr→Obs→Prop) (e:Exit) (a:Act) (w:World):Prop:=∃ γ T S fr σ,Rel X γ T S w fr σ a∧Q e fr σ
structure W (X:Ctx) (c:Code) (fr:Fr) (σ:Obs) (Q:Exit→Fr→Obs→Prop):Prop where
  out:∀ γ T S w a,Rel X γ T S w fr σ a→c.wp X.P (LQ X Q) a w
structure RL (X:Ctx) (ops:Array Oper) (l:List Oper) (fr:Fr) (σ:Obs) (Q:Fr→Obs→Prop):Prop where
  out:∀ γ T S w a (K:Exit→Act→World→Prop),Rel X γ T S w fr σ a→(∀ γ T S w a fr σ,Rel X γ T S w fr σ a→Q fr σ→K .normal a w)→wpList X.P ops K l a w
def thenQ (K:Fr→Obs→Prop) (Q:Exit→Fr→Obs→Prop):Exit→Fr→Obs→Prop
  | .normal,fr,σ=>K fr σ
  | e,fr,σ=>Q e fr σ
def blockQ (id:Nat) (Q:Exit→Fr→Obs→Prop):Exit→Fr→Obs→Prop
  | .exit id',fr,σ=>if id'=id then Q .normal fr σ else Q (.exit id') fr σ
  | e,fr,σ=>Q e fr σ
theorem W.conseq {c:Code} {Q Q':Exit→Fr→Obs→Prop} (h:W X c fr σ Q) (hq:∀ e fr σ,Q e fr σ→Q' e fr σ):W X c fr σ Q' :=
  ⟨fun γ T S w a hr=>Code.wp_mono (fun _ _ _ ⟨γ',T',S',fr',σ',h1,h2⟩=>⟨γ',T',S',fr',σ',h1,hq _ _ _ h2⟩) (h.out γ T S w a hr)⟩
theorem W.weak {c:Code} {Q:Exit→Fr→Obs→Prop} (hf:∀ t x,look fr' t=some x→look fr t=some x) (hs:∀ k o,look σ' k=some o→look σ k=some o) (h:W X c fr' σ' Q):W X c fr σ Q :=
  ⟨fun γ T S w a hr=>h.out γ T S w a (hr.sub hf hs)⟩
theorem zh0 {Q:Exit→Fr→Obs→Prop} (h:Q .normal fr σ):W X .skip fr σ Q:=⟨fun γ T S _ _ hr=>wp_skip ⟨γ,T,S,fr,σ,hr,h⟩⟩
theorem zkn {Q:Exit→Fr→Obs→Prop} (h:Q .ret fr σ):W X .ret fr σ Q:=⟨fun γ T S _ _ hr=>wp_ret ⟨γ,T,S,fr,σ,hr,h⟩⟩
theorem zh2 {id:Nat} {Q:Exit→Fr→Obs→Prop} (h:Q (.exit id) fr σ):W X (.exit id) fr σ Q:=⟨fun γ T S _ _ hr=>wp_exit ⟨γ,T,S,fr,σ,hr,h⟩⟩
theorem zeo {x y:Code} {Q:Exit→Fr→Obs→Prop} (h:W X x fr σ (thenQ (fun fr σ=>W X y fr σ Q) Q)):W X (.seq x y) fr σ Q :=
  ⟨fun γ T S w a hr=>wp_seq (Code.wp_mono (fun e a w ⟨γ',T',S',fr',σ',h1,h2⟩=>by
    cases e with
    | normal=>exact h2.out γ' T' S' w a h1
    | exit id=>exact ⟨γ',T',S',fr',σ',h1,h2⟩
    | goto l=>exact ⟨γ',T',S',fr',σ',h1,h2⟩
    | ret=>exact ⟨γ',T',S',fr',σ',h1,h2⟩
    | panic ch=>exact ⟨γ',T',S',fr',σ',h1,h2⟩
    | outgrown=>exact ⟨γ',T',S',fr',σ',h1,h2⟩) (h.out γ T S w a hr))⟩
theorem zgT {id:Nat} {c:Code} {Q:Exit→Fr→Obs→Prop} (h:W X c fr σ (blockQ id Q)):W X (.block id c) fr σ Q :=
  ⟨fun γ T S w a hr=>wp_block (Code.wp_mono (fun e a w ⟨γ',T',S',fr',σ',h1,h2⟩=>by
    cases e with
    | exit id' =>
      simp only [blockQ,Exit.inBlock] at h2 ⊢
      split at h2<;>rename_i he
      · rw [if_pos he];exact ⟨γ',T',S',fr',σ',h1,h2⟩
      · rw [if_neg he];exact ⟨γ',T',S',fr',σ',h1,h2⟩
    | normal=>exact ⟨γ',T',S',fr',σ',h1,h2⟩
    | goto l=>exact ⟨γ',T',S',fr',σ',h1,h2⟩
    | ret=>exact ⟨γ',T',S',fr',σ',h1,h2⟩
    | panic ch=>exact ⟨γ',T',S',fr',σ',h1,h2⟩
    | outgrown=>exact ⟨γ',T',S',fr',σ',h1,h2⟩) (h.out γ T S w a hr))⟩
theorem zoq (hr:Rel X γ T S w fr σ a) {c:Operand} {t:Bool} (h:ev fr c=some (.one (.d (.v (.bool t))))):a.eval c=.bool t:=zaw (zae hr h)
theorem zbD {c:Operand} {x y:Code} {Q:Exit→Fr→Obs→Prop} (t:Bool) (hc:ev fr c=some (.one (.d (.v (.bool t))))) (h1:t=true→W X x fr σ Q) (h2:t=false→W X y fr σ Q):W X (.cond c x y) fr σ Q :=
  ⟨fun γ T S w a hr=>wp_cond_split (zoq hr hc) (fun e=>(h1 e).out γ T S w a hr) (fun e=>(h2 e).out γ T S w a hr)⟩
theorem zfr {P:Program} {c:Code} {Q:Exit→Act→World→Prop}:∀ (m n:Nat),m≤n→ ∀ a w,Code.rounds P c Q m a w→Code.rounds P c Q n a w
  | 0,_,_,_,_,h=>h.elim
  | m+1,n,hle,a,w,h=>by
    obtain ⟨n,rfl⟩:∃ k,n=k+1:=⟨n - 1,by omega⟩
    refine Code.wp_mono (fun e a w q=>?_) (show c.wp P (Exit.then (Code.rounds P c Q m) Q) a w from h)
    cases e<;>first|exact q|exact zfr m n (by omega) a w q
theorem zpS {c:Code} {Q:Exit→Fr→Obs→Prop} (I:Nat→Fr→Obs→Prop)
    (round:∀ n fr σ,I n fr σ→W X c fr σ (thenQ (fun fr σ=>∃ m,m < n∧I m fr σ) Q)) (n:Nat) (h0:I n fr σ):W X (.loop c) fr σ Q:=by
  refine ⟨fun γ T S w a hr=>wp_loop_rounds (n+1) ?_⟩
  have key:∀ (n:Nat) (fr:Fr) (σ:Obs),I n fr σ→ ∀ γ T S w a,Rel X γ T S w fr σ a→Code.rounds X.P c (LQ X Q) (n+1) a w:=by
    intro n
    induction n using Nat.strongRecOn with
    | _ n ih =>
      intro fr σ hi γ T S w a hr
      rw [rounds_succ]
      refine Code.wp_mono (fun e a w ⟨γ',T',S',fr',σ',h1,h2⟩=>?_) ((round n fr σ hi).out γ T S w a hr)
      cases e with
      | normal =>
        obtain ⟨m,hm,h3⟩:=h2
        exact zfr (m+1) n hm a w (ih m hm fr' σ' h3 γ' T' S' w a h1)
      | exit id=>exact ⟨γ',T',S',fr',σ',h1,h2⟩
      | goto l=>exact ⟨γ',T',S',fr',σ',h1,h2⟩
      | ret=>exact ⟨γ',T',S',fr',σ',h1,h2⟩
      | panic ch=>exact ⟨γ',T',S',fr',σ',h1,h2⟩
      | outgrown=>exact ⟨γ',T',S',fr',σ',h1,h2⟩
  exact key n fr σ h0 γ T S w a hr
theorem zey {id:Nat} {l:List Oper} {Q:Exit→Fr→Obs→Prop} (h:RL X l.toArray l fr σ (Q .normal)):W X (.region id l.toArray false) fr σ Q :=
  ⟨fun γ T S w a hr=>wp_region_lit (h.out γ T S w a (LQ X Q) hr fun γ T S _ _ fr σ hr hq=>⟨γ,T,S,fr,σ,hr,hq⟩)⟩
variable {ops:Array Oper} {rest:List Oper} {Q:Fr→Obs→Prop}
theorem zge (h:Q fr σ):RL X ops [] fr σ Q:=⟨fun γ T S w a _ hr hk=>hk γ T S w a fr σ hr h⟩
def wantA (ops:Array Oper) (o:Oper) (fr:Fr):Option Bool :=
  match o.guard with
  | none=>some true
  | some (g,b)=>match (ops[g]?).bind (·.dst) with
    | some t=>match look fr t with
      | some (.one (.d (.v (.bool x))))=>some (x==b)
      | some (.tup [])=>some false
      | _=>none
    | none=>none
theorem zam (hr:Rel X γ T S w fr σ a) {r:Bool} (h:wantA ops o fr=some r):Region.wanted o (yielded ops a.tmps)=r:=by
  unfold wantA at h
  unfold Region.wanted
  split at h
  · rename_i hg;rw [hg];injection h
  · rename_i g b hg
    rw [hg]
    split at h
    · rename_i t ht
      split at h
      · rename_i x hx
        injection h with h;subst h
        have hv:=zaw (hr.fr t _ hx)
        have hy:yielded ops a.tmps g=some x:=by
          unfold yielded
          rw [ht,Option.bind_some]
          rw [Array.getD_eq_getD_getElem?] at hv
          cases hq:a.tmps[t]? with
          | none=>rw [hq] at hv;simp [undef] at hv
          | some v=>rw [hq] at hv;simp only [Option.getD_some] at hv;rw [hv]
        simp only [hy]
        cases x<;>cases b<;>rfl
      · rename_i hx
        injection h with h;subst h
        have hv:=hr.fr t _ hx
        have hu:a.tmps.getD t undef=undef:=by
          generalize a.tmps.getD t undef=u at hv
          cases hv with|tup _ us len _=>rw [List.length_nil,List.length_eq_zero_iff] at len;subst len;rfl
        have hy:yielded ops a.tmps g=none:=by
          unfold yielded
          rw [ht,Option.bind_some]
          rw [Array.getD_eq_getD_getElem?] at hu
          cases hq:a.tmps[t]? with
          | none=>rfl
          | some v=>rw [hq] at hu;simp only [Option.getD_some] at hu;rw [hu];rfl
        simp only [hy];rfl
      · cases h
    · cases h
theorem off_:RV γ T S w (.tup []) undef:=.tup [] [] rfl (fun j x u hx=>by simp at hx)
theorem zmd (hw:wantA ops o fr=some false) (hd:inF X.nt o.dst=true) (h:RL X ops rest (putF fr o.dst (.tup [])) σ Q):RL X ops (o :: rest) fr σ Q :=
  ⟨fun γ T S w a K hr hk=>wpList_step fun K' hK=>by
    rw [if_neg (by rw [zam hr hw];decide)]
    exact hK _ _ (h.out γ T S w _ K (hr.put hd off_) hk)⟩
def Good (X:Ctx):Prop:=∀ t i,X.Ty t=some i→TyOK X.P t i
theorem zh1 (hT:Good X) (r:Out) (hw:wantA ops o fr=some true) (hd:inF X.nt o.dst=true) (hv:aop X o fr σ=some r) (h:RL X ops rest (putF r.fr o.dst r.x) r.σ Q):RL X ops (o :: rest) fr σ Q :=
  ⟨fun γ T S w a K hr hk=>wpList_step fun K' hK=>by
    rw [if_pos (zam hr hw)]
    obtain ⟨γ',T',S',w',v,h1,h2,h3⟩:=zlK hT hv γ T S w a hr
    have h4:=h.out γ' T' S' w' _ K (h2.put hd h3) hk
    unfold Oper.wp
    rcases h1 with h1 | ⟨h1,rfl⟩
    · rw [h1];exact hK _ _ h4
    · rw [h1];exact hK _ _ h4⟩
def data1:VV→Option VV
  | .one (.d x)=>some (.one (.d (nz x)))
  | .one (.own _ r)=>some (.one (.d (.sl r)))
  | .dat cs=>some (.dat cs)
  | .ag cs=>(dataCs cs).map .dat
  | .one (.fn f [])=>some (.one (.d (.fn f [])))
  | _=>none
def dataL:List VV→Option (List VV)
  | []=>some []
  | x :: l=>match data1 x,dataL l with
    | some y,some m=>some (y :: m)
    | _,_=>none
def dataV:VV→Option VV
  | .tup l=>(dataL l).map .tup
  | x=>data1 x
def PV (S:Nat→Nat→Prop) (w:World) (x:VV) (v:Value):Prop:=∀ γ T,RV γ T S w x v
theorem zbC {x y:VV} (h:data1 x=some y) {v:Value} (hv:RV γ T S w x v):PV S w y v:=by
  intro γ' T'
  unfold data1 at h
  split at h
  · injection h with h;subst h;cases hv with|one hv=>exact .one (RD.nz_ hv)
  · injection h with h;subst h;cases hv with|one hv=>exact .one hv.1
  · injection h with h;subst h;cases hv with|dat hv=>exact .dat hv
  · rw [Option.map_eq_some_iff] at h
    obtain ⟨ds,hd,rfl⟩:=h
    cases hv with
    | ag _ us len val=>exact .dat (zb7 hd ⟨len,fun j c hc=>let ⟨u,h1,h2⟩:=val j c hc;⟨u,h1,h2,h2.one⟩⟩)
  · injection h with h;subst h;cases hv with
    | one hv=>rw [show v=.func (.func _) #[] ([]:List Value).toArray from hv];exact .one (.fn _ [] [] rfl fun i q u hq=>by simp at hq)
  · cases h
theorem zhu:∀ {l m:List VV},dataL l=some m→m.length=l.length∧ ∀ (j:Nat) (y:VV),m[j]?=some y→ ∃ x,l[j]?=some x∧data1 x=some y
  | [],m,h=>by simp only [dataL,Option.some.injEq] at h;subst h;exact ⟨rfl,fun j y hy=>by simp at hy⟩
  | x :: l,m,h=>by
    simp only [dataL] at h
    split at h
    · rename_i y m' hy hm
      injection h with h;subst h
      obtain ⟨h1,h2⟩:=zhu hm
      refine ⟨by simp [h1],fun j z hz=>?_⟩
      cases j with
      | zero=>simp only [List.getElem?_cons_zero,Option.some.injEq] at hz;subst hz;exact ⟨x,rfl,hy⟩
      | succ j=>simpa using h2 j z (by simpa using hz)
    · cases h
theorem zcj {x y:VV} (h:dataV x=some y) {v:Value} (hv:RV γ T S w x v):PV S w y v:=by
  cases x with
  | tup l =>
    simp only [dataV,Option.map_eq_some_iff] at h
    obtain ⟨m,hm,rfl⟩:=h
    obtain ⟨h1,h2⟩:=zhu hm
    cases hv with
    | tup _ us len val =>
      intro γ' T'
      refine .tup m us (by rw [len,h1]) fun j y u hy hu=>?_
      obtain ⟨x,hx,hxy⟩:=h2 j y hy
      exact zbC hxy (val j x u hx hu) γ' T'
  | one c=>exact zbC h hv
  | dat cs=>exact zbC (x:=.dat cs) h hv
  | ag cs=>exact zbC (x:=.ag cs) h hv
  | junk=>exact zbC (x:=.junk) h hv
theorem PV.mono (hS:∀ b o,S b o→S' b o) (hk:Kp S w w') {x:VV} {v:Value} (h:PV S w x v):PV S' w' x v:=fun γ T=>(h γ T).mono hS hk
inductive Res where
  | val (x:VV)
  | own (e:TypeId) (sz:Nat) (rows:List (List D))
def ResR (S':Nat→Nat→Prop) (w w':World) (v:Value):Res→Prop
  | .val x=>PV S' w' x v
  | .own e sz rows=>RD S' w' (.sl rows) v∧ ∃ n xs,w'.ownsRow w.heap.size e sz v n xs∧ ∀ g,v.ownBlock=some g→ ∀ o,S' g o→o < n * sz
def ArgsR (S:Nat→Nat→Prop) (w:World) (args:List VV) (vs:List Value):Prop:=vs.length=args.length∧ ∀ (j:Nat) (y:VV) (v:Value),args[j]?=some y→vs[j]?=some v→PV S w y v
def Enters (P:Program) (f:FuncId):Prop:=∀ (xs:Array Value) (w:World),(callFunc f xs).run P w=.ok (.enter f xs) w
structure CallsV (P:Program) (f:FuncId) (args:List VV) (res:Res):Prop where
  ent:Enters P f
  out:∀ (S:Nat→Nat→Prop) (w:World) (vs:List Value),ArgsR S w args vs→(∀ b o,S b o→b < w.heap.size)→
    Calls P f vs.toArray w (fun e w'=>∃ v S',e=.returned v∧Below w.heap.size w w'∧(∀ b o,S b o→S' b o)∧(∀ b o,S' b o→S b o∨(w.heap.size≤b∧b < w'.heap.size))∧ResR S' w w' v res)
def argsL (fr:Fr):List Operand→Option (List VV)
  | []=>some []
  | x :: l=>match (ev fr x).bind data1,argsL fr l with
    | some y,some m=>some (y :: m)
    | _,_=>none
theorem zbg (hr:Rel X γ T S w fr σ a):∀ {l:List Operand} {m:List VV},argsL fr l=some m→ArgsR S w m (l.map a.eval)
  | [],m,h=>by simp only [argsL,Option.some.injEq] at h;subst h;exact ⟨rfl,fun j y v hy=>by simp at hy⟩
  | x :: l,m,h=>by
    simp only [argsL] at h
    split at h
    · rename_i y m' hy hm
      injection h with h;subst h
      obtain ⟨h1,h2⟩:=zbg hr hm
      obtain ⟨xv,hx1,hx2⟩:=Option.bind_eq_some_iff.1 hy
      refine ⟨by simp [h1],fun j z v hz hv=>?_⟩
      cases j with
      | zero =>
        simp only [List.getElem?_cons_zero,Option.some.injEq] at hz;subst hz
        simp only [List.map_cons,List.getElem?_cons_zero,Option.some.injEq] at hv;subst hv
        exact zbC hx2 (zae hr hx1)
      | succ j=>exact h2 j z v (by simpa using hz) (by simpa using hv)
    · cases h
def resOut (d:Option Nat) (fr:Fr) (σ:Obs):Res→Option Out
  | .val x=>some ⟨x,fr,σ⟩
  | .own e sz rows=>match d with
    | some k=>some ⟨.one (.own k rows),stripF k fr,(k,.tok e sz) :: stripS k σ⟩
    | none=>some ⟨.junk,fr,σ⟩
theorem zfe {w:World} {b e sz n:Nat} {v:Value} {xs:List Value} (h:w.ownsRow b e sz v n xs):w.ownsRow 0 e sz v n xs :=
  ⟨h.1,h.2.imp id fun ⟨g,cap,cur,h1,_,h2⟩=>⟨g,cap,cur,h1,Nat.zero_le _,h2⟩⟩
theorem Rel.back (hr:Rel X γ T S w fr σ a) (hb:Below w.heap.size w w') (hS:∀ b o,S b o→S' b o) (hS':∀ b o,S' b o→S b o∨(w.heap.size≤b∧b < w'.heap.size)) {res:Res} {v:Value} (hv:ResR S' w w' v res) {d:Option Nat} {r:Out} (h:resOut d fr σ res=some r) :
    ∃ T',Rel X γ T' S' w' r.fr r.σ a∧RV γ T' S' w' r.x v:=by
  have g1:=hr.grow hb hS hS'
  cases res with
  | val x=>simp only [resOut,Option.some.injEq] at h;subst h;exact ⟨T,g1,hv γ T⟩
  | own e sz rows =>
    cases d with
    | none=>simp only [resOut,Option.some.injEq] at h;subst h;exact ⟨T,g1,.junk _⟩
    | some k =>
      simp only [resOut,Option.some.injEq] at h;subst h
      obtain ⟨h1,n,xs,h2,h3⟩:=hv
      have g2:=g1.upd (γ':=γ) (T':=setK T k v) k (fun _ _=>rfl) (fun j hj=>zaz _ _ _ _ hj)
      have hN:∀ g,v.ownBlock=some g→w.heap.size≤g:=fun g hg=>(h2.lt g hg).1
      refine ⟨setK T k v,g2.add (fun o hl=>?_) ?_ fun b hfp k' o' hl hne hb'=>?_,.one ⟨h1,zaq _ _ _⟩⟩
      · rw [zar,Option.map_eq_some_iff] at hl
        obtain ⟨o',_,h3⟩:=hl
        simpa using h3.symm
      · refine ⟨n,xs,by rw [zaq];exact zfe h2,fun g hg=>?_⟩
        rw [zaq] at hg
        exact ⟨(za6 hr g (hN g hg)).2,h3 g hg⟩
      · simp only [fp,zaq] at hfp
        rw [zar,Option.map_eq_some_iff] at hl
        obtain ⟨o2,h5,h4⟩:=hl
        rw [if_neg hne] at h4
        subst h4
        have h6:=fp.strip (γ:=γ) (T:=T) hne (fun _ _=>rfl) (fun j hj=>zaz _ _ _ _ hj) hb'
        have:=(hr.st.obj k' o2 h5).lt h6
        have:=hN b hfp
        omega
theorem zbs {f:FuncId} {xs:Array Operand} {ats:Array TypeId} (ho:o.op=.call { callee:=.value (.func f),args:=xs,argTypes:=ats }):execOp a.eval o=callFunc f (xs.toList.map a.eval).toArray:=by
  have h1:execOp a.eval o=callFunc f (#[]++xs.map a.eval ++ #[]):=by
    obtain ⟨dst,op,type,pos,after,guard⟩:=o
    simp only at ho
    subst ho
    rfl
  rw [h1];simp [← Array.toList_map]
theorem zgY {f:FuncId} {xs:Array Operand} {ats:Array TypeId} {args:List VV} {res:Res} (r:Out) (hw:wantA ops o fr=some true) (hd:inF X.nt o.dst=true) (ho:o.op=.call { callee:=.value (.func f),args:=xs,argTypes:=ats })
    (ha:argsL fr xs.toList=some args) (hc:CallsV X.P f args res) (hr':resOut o.dst fr σ res=some r) (h:RL X ops rest (putF r.fr o.dst r.x) r.σ Q):RL X ops (o :: rest) fr σ Q :=
  ⟨fun γ T S w a K hr hk=>wpList_step fun K' hK=>by
    rw [if_pos (zam hr hw)]
    unfold Oper.wp
    rw [zbs ho,hc.ent]
    refine (hc.out S w _ (zbg hr ha) hr.st.lt).mono fun e w' he=>?_
    obtain ⟨v,S',rfl,hb,hS,hS',hv⟩:=he
    obtain ⟨T',g1,g2⟩:=hr.back hb hS hS' hv hr'
    exact hK _ _ (h.out γ T' S' w' _ K (g1.put hd g2) hk)⟩
end
end Go.Proofs.YtiplihojmfbjkaaGreat
