/- A function's contract out of its body. -/
import Derived.Test.YtiplihojmfbjkaaGreatW8
import Derived.IntWalk
import Derived.WalkKit
namespace Go.Proofs.YtiplihojmfbjkaaGreat
open Go.RowKit
section
variable {X:Ctx} {γ γ':Nat→Nat} {T T':Nat→Value} {S S':Nat→Nat→Prop} {w w':World} {fr fr':Fr} {σ σ':Obs} {a:Act} {o:Oper}
def ret1 (X:Ctx) (fr:Fr) (σ:Obs):ResultVar→Option VV
  | .tmp t=>look fr t
  | .cell p t=>match X.Ty t,look fr p with
    | some i,some (.one (.po k o))=>match look σ k with
      | some (.box _ cs)=>loadA i cs o
      | some (.cell _ c)=>if i.agg=false∧o=0 then some (.one c) else none
      | _=>none
    | _,_=>none
def retL (X:Ctx) (fr:Fr) (σ:Obs):List ResultVar→Option (List VV)
  | []=>some []
  | r :: l=>match ret1 X fr σ r,retL X fr σ l with
    | some x,some m=>some (x :: m)
    | _,_=>none
def retV (X:Ctx) (fr:Fr) (σ:Obs) (rs:List ResultVar):Option VV :=
  match retL X fr σ rs with
  | some [x]=>some x
  | some l=>some (.tup l)
  | none=>none
def resOne (tmps:Array Value):ResultVar→Sem Value
  | .tmp t=>pure (tmps.getD t undef)
  | .cell p t=>do loadVar t (← asAddr (tmps.getD p undef))
theorem zc8 (fn:Func) (tmps:Array Value):results fn tmps=(do let vs ← fn.results.mapM (resOne tmps);pure (if h:vs.size=1 then vs[0] else .tuple vs)):=by
  unfold results
  congr 1
theorem zek (hT:Good X) (hr:Rel X γ T S w fr σ a) {r:ResultVar} {x:VV} (h:ret1 X fr σ r=some x) :
    ∃ v,(resOne a.tmps r).run X.P w=.ok v w∧RV γ T S w x v:=by
  cases r with
  | tmp t=>exact ⟨_,by simp only [resOne,Sem.run_pure],hr.fr t x h⟩
  | cell p t =>
    simp only [ret1] at h
    split at h
    · rename_i i k off hi hp
      have hpv:=hr.fr p _ hp
      cases hpv with
      | one hpv =>
        have e:a.tmps.getD p undef=.pointer (some ⟨γ k,off,none⟩):=hpv
        split at h
        · rename_i ty cs hl
          obtain ⟨us,h1,h2,_,_⟩:=hr.st.obj k _ hl
          obtain ⟨v,hv1,hv2⟩:=ze2 (γ:=γ) (T:=T) (hT t i hi) h2 (γ k) 0 off (fun j u hj=>by rw [cell_of_row w _ _ _ _ _ h1];simpa using hj) h
          rw [Nat.zero_add] at hv1
          exact ⟨v,by simp only [resOne,e,asAddr,Sem.run_bind,Sem.run_pure,Result.andThen_ok,hv1],hv2⟩
        · rename_i ty c hl
          split at h
          · rename_i hc
            injection h with h;subst h
            obtain ⟨u,h1,h2,h3,_⟩:=hr.st.obj k _ hl
            obtain ⟨inf,d,e1,e2,e3,e4,e5,e6,_⟩:=(hT t i hi).get
            have hagg:(isAgg t).run X.P w=.ok false w:=by
              unfold isAgg
              rw [Sem.run_bind,run_underlying e2 w,← hc.1,← e6]
              cases d<;>rfl
            have hcell:w.cell? ⟨γ k,0,none⟩=some u:=by rw [cell_of_row w _ _ _ _ _ h1];rfl
            rw [hc.2] at e
            exact ⟨u,by simp only [resOne,e,asAddr,loadVar,load,Sem.run,Sem.run_bind,Sem.run_pure,Result.andThen_ok,hagg,hcell,Bool.false_eq_true,if_false],.one h2⟩
          · cases h
        · cases h
    · cases h
theorem zd4 (hT:Good X) (hr:Rel X γ T S w fr σ a):∀ {l:List ResultVar} {m:List VV},retL X fr σ l=some m→
    ∃ us:List Value,(l.mapM (resOne a.tmps)).run X.P w=.ok us w∧us.length=m.length∧ ∀ (j:Nat) (x:VV) (u:Value),m[j]?=some x→us[j]?=some u→RV γ T S w x u
  | [],m,h=>by simp only [retL,Option.some.injEq] at h;subst h;exact ⟨[],by simp,rfl,fun j x u h=>by simp at h⟩
  | r :: l,m,h=>by
    simp only [retL] at h
    split at h
    · rename_i x m' hx hm
      injection h with h;subst h
      obtain ⟨v,h1,h2⟩:=zek hT hr hx
      obtain ⟨us,h3,h4,h5⟩:=zd4 hT hr hm
      refine ⟨v :: us,?_,by simp [h4],fun j y u hy hu=>?_⟩
      · rw [List.mapM_cons]
        simp only [Sem.run_bind,h1,Result.andThen_ok,h3,Sem.run_pure]
      · cases j with
        | zero=>simp only [List.getElem?_cons_zero,Option.some.injEq] at hy hu;subst hy;subst hu;exact h2
        | succ j=>exact h5 j y u (by simpa using hy) (by simpa using hu)
    · cases h
theorem zcE (hT:Good X) (hr:Rel X γ T S w fr σ a) {fn:Func} {x:VV} (h:retV X fr σ fn.results.toList=some x):∃ v,(results fn a.tmps).run X.P w=.ok v w∧RV γ T S w x v:=by
  unfold retV at h
  split at h
  · rename_i y hl
    injection h with h;subst h
    obtain ⟨us,h1,h2,h3⟩:=zd4 hT hr hl
    match us,h2 with
    | [u],_ =>
      refine ⟨u,?_,h3 0 _ u rfl rfl⟩
      rw [zc8,Array.mapM_eq_mapM_toList]
      simp only [Sem.run_bind,Sem.run_map,h1,Result.andThen_ok,Sem.run_pure]
      rfl
  · rename_i l hne hl
    injection h with h;subst h
    obtain ⟨us,h1,h2,h3⟩:=zd4 hT hr hl
    refine ⟨.tuple us.toArray,?_,.tup l us h2 h3⟩
    rw [zc8,Array.mapM_eq_mapM_toList]
    simp only [Sem.run_bind,Sem.run_map,h1,Result.andThen_ok,Sem.run_pure]
    have:¬ us.toArray.size=1:=by
      intro he
      have hl1:l.length=1:=by rw [← h2];simpa using he
      match l,hl1 with
      | [z],_=>exact hne z rfl
    rw [dif_neg this]
  · cases h
def RetOK (X:Ctx) (rs:List ResultVar) (res:Res) (fr:Fr) (σ:Obs):Prop :=
  match res with
  | .val y=>(retV X fr σ rs).bind dataV=some y
  | .own e sz rows=>∃ k,retV X fr σ rs=some (.one (.own k rows))∧look σ k=some (.tok e sz)
def EndQ (X:Ctx) (rs:List ResultVar) (res:Res):Exit→Fr→Obs→Prop
  | .normal,fr,σ | .ret,fr,σ=>RetOK X rs res fr σ
  | _,_,_=>False
def argsF (args:List VV):Fr:=(args.zipIdx).map fun p=>(p.2,p.1)
theorem zbJ:∀ (args:List VV) (n t:Nat) (x:VV),look ((args.zipIdx n).map fun p=>(p.2,p.1)) t=some x→n≤t∧args[t - n]?=some x
  | [],n,t,x,h=>by simp [look] at h
  | y :: args,n,t,x,h=>by
    simp only [List.zipIdx_cons,List.map_cons,look] at h
    split at h
    · rename_i e;subst e;simpa using h
    · rename_i hne
      obtain ⟨h1,h2⟩:=zbJ args (n+1) t x h
      refine ⟨by omega,?_⟩
      rw [show t - n=(t - (n+1))+1 by omega,List.getElem?_cons_succ]
      exact h2
structure W0 where
  w:World
  N:Nat→Prop
  pin:Nat→Option Nat
  df:List Deferred
def W0.of (w:World):W0:=⟨w,fun b=>b < w.heap.size,fun _=>none,[]⟩
def ctx (P:Program) (Ty:TypeId→Option TyI) (nt:Nat) (w:W0) (S:Nat→Nat→Prop):Ctx:=⟨P,Ty,nt,w.w,w.N,S,fun k=>if k < nt then none else w.pin k,fun _ h=>if_pos h,w.df⟩
theorem zaa {P:Program} {Ty:TypeId→Option TyI} {f:FuncId} {fn:Func} {c:Code} {args:List VV} {res:Res} (hT:∀ t i,Ty t=some i→TyOK P t i)
    (hf : P.funcs[f]? = some fn) (hname : (fn.name == "runtime.NumGoroutine") = false) (hb : fn.body = some c) (hn : Nat.ble args.length fn.ntmps = true)
    (h:∀ (w0:W0) (S0:Nat→Nat→Prop),W (ctx P Ty fn.ntmps w0 S0) c (argsF args) [] (EndQ (ctx P Ty fn.ntmps w0 S0) fn.results.toList res)):CallsV P f args res:=by
  have hent:Enters P f:=fun xs w=>by
    have h1 : fn.name ≠ "runtime.NumGoroutine" := by simpa using hname
    simp [callFunc,hf,h1,hb]
  refine ⟨hent,fun S w vs ha lt=>calls_of_wp hf hb ?_⟩
  have hle:vs.length≤fn.ntmps:=by rw [ha.1];exact Nat.le_of_ble_eq_true hn
  have hr:Rel (ctx P Ty fn.ntmps (.of w) S) (fun _=>0) (fun _=>undef) S w (argsF args) [] { tmps:=vs.toArray++Array.replicate (fn.ntmps - vs.toArray.size) undef,defers:=[] }:=by
    refine ⟨⟨.refl _ _,lt,fun b hb=>hb,fun b o hs=>.inl hs,⟨fun _ _ hs=>hs,fun _ _ _ _ h=>h⟩,fun k o ho=>by simp [look] at ho,fun k k' o o' ho=>by simp [look] at ho⟩,fun t x hx=>?_,by simp [ctx];omega,rfl⟩
    obtain ⟨_,h2⟩:=zbJ args 0 t x hx
    rw [Nat.sub_zero] at h2
    have hlt:t < vs.length:=by rw [ha.1];exact (List.getElem?_eq_some_iff.1 h2).1
    have hv:vs[t]?=some vs[t]:=List.getElem?_eq_getElem hlt
    have e:(vs.toArray++Array.replicate (fn.ntmps - vs.toArray.size) undef).getD t undef=vs[t]:=by
      rw [Array.getD_eq_getD_getElem?,Array.getElem?_append_left (by simpa using hlt)]
      simp [hv]
    rw [e]
    exact ha.2 t x _ h2 hv _ _
  refine Code.wp_mono (fun e a' w' hq=>?_) ((h (.of w) S).out _ _ _ _ _ hr)
  obtain ⟨γ,T,S',fr,σ,hr',hq⟩:=hq
  have hbel:Below w.heap.size w w':=⟨hr'.st.keep.os,hr'.st.keep.tape,hr'.st.keep.output,hr'.st.keep.size,fun k hk=>hr'.st.keep.block k hk hk⟩
  have hnew:∀ b o,S' b o→S b o∨(w.heap.size≤b∧b < w'.heap.size):=fun b o hs=>(hr'.st.set b o hs).imp id fun hnN=>⟨Nat.le_of_not_lt hnN,hr'.st.lt b o hs⟩
  have hfin:RetOK (ctx P Ty fn.ntmps (.of w) S) fn.results.toList res fr σ→ ∃ v,(results fn a'.tmps).run P w'=.ok v w'∧ ∃ v' S',Ending.returned v=.returned v'∧Below w.heap.size w w'∧(∀ b o,S b o→S' b o)∧(∀ b o,S' b o→S b o∨(w.heap.size≤b∧b < w'.heap.size))∧ResR S' w w' v' res:=by
    intro hok
    cases res with
    | val y =>
      obtain ⟨x,hx1,hx2⟩:=Option.bind_eq_some_iff.1 hok
      obtain ⟨v,g1,g2⟩:=zcE (X:=ctx P Ty fn.ntmps (.of w) S) hT hr' hx1
      exact ⟨v,g1,v,S',rfl,hbel,hr'.st.mon.1,hnew,zcj hx2 g2⟩
    | own e sz rows =>
      obtain ⟨k,hx1,hx2⟩:=hok
      obtain ⟨v,g1,g2⟩:=zcE (X:=ctx P Ty fn.ntmps (.of w) S) hT hr' hx1
      cases g2 with
      | one g2 =>
        obtain ⟨n,xs,q1,q2⟩:=hr'.st.obj k _ hx2
        rw [g2.2] at q1 q2
        refine ⟨v,g1,v,S',rfl,hbel,hr'.st.mon.1,hnew,g2.1,n,xs,⟨q1.1,?_⟩,fun g hg=>(q2 g hg).2⟩
        rcases q1.2 with q3 | ⟨g,cap,cur,q3,_,q4⟩
        · exact .inl q3
        · exact .inr ⟨g,cap,cur,q3,Nat.le_of_not_lt (q2 g (by simp [q3,Value.ownBlock])).1,q4⟩
  cases e with
  | normal=>obtain ⟨v,g1,g2⟩:=hfin hq;exact ⟨hr'.df,v,g1,g2⟩
  | ret=>obtain ⟨v,g1,g2⟩:=hfin hq;exact ⟨hr'.df,v,g1,g2⟩
  | exit id=>exact hq.elim
  | goto l=>exact hq.elim
  | panic ch=>exact hq.elim
  | outgrown=>exact hq.elim
variable {ops:Array Oper} {rest:List Oper} {Q:Fr→Obs→Prop}
theorem RL_p (hT:Good X) {d:Nat} {x:VV} (hw:wantA ops o fr=some true) (hdst:o.dst=some d) (hd:Nat.blt d X.nt=true) (hv:aop X o fr σ=some ⟨x,fr,σ⟩) (h:RL X ops rest ((d,x) :: fr) σ Q):RL X ops (o :: rest) fr σ Q :=
  zh1 hT _ hw (by rw [hdst];exact hd) hv (by rw [hdst];exact h)
theorem RL_n (hT:Good X) {d:Nat} {x:VV} {ob:Ob} (hw:wantA ops o fr=some true) (hdst:o.dst=some d) (hd:Nat.blt d X.nt=true) (hv:aop X o fr σ=some ⟨x,stripF d fr,(d,ob) :: stripS d σ⟩) (h:RL X ops rest ((d,x) :: stripF d fr) ((d,ob) :: stripS d σ) Q):RL X ops (o :: rest) fr σ Q :=
  zh1 hT _ hw (by rw [hdst];exact hd) hv (by rw [hdst];exact h)
theorem RL_s (hT:Good X) {σ':Obs} (hw:wantA ops o fr=some true) (hdst:o.dst=none) (hv:aop X o fr σ=some ⟨.junk,fr,σ'⟩) (h:RL X ops rest fr σ' Q):RL X ops (o :: rest) fr σ Q :=
  zh1 hT _ hw (by rw [hdst];rfl) hv (by rw [hdst];exact h)
theorem RL_o {d:Nat} (hw:wantA ops o fr=some false) (hdst:o.dst=some d) (hd:Nat.blt d X.nt=true) (h:RL X ops rest ((d,.tup []) :: fr) σ Q):RL X ops (o :: rest) fr σ Q :=
  zmd hw (by rw [hdst];exact hd) (by rw [hdst];exact h)
theorem zpW (hw:wantA ops o fr=some false) (hdst:o.dst=none) (h:RL X ops rest fr σ Q):RL X ops (o :: rest) fr σ Q :=
  zmd hw (by rw [hdst];rfl) (by rw [hdst];exact h)
theorem RL_c {f:FuncId} {xs:Array Operand} {ats:Array TypeId} {args:List VV} {x:VV} {d:Nat} (hw:wantA ops o fr=some true) (hdst:o.dst=some d) (hd:Nat.blt d X.nt=true) (ho:o.op=.call { callee:=.value (.func f),args:=xs,argTypes:=ats })
    (ha:argsL fr xs.toList=some args) (hc:CallsV X.P f args (.val x)) (h:RL X ops rest ((d,x) :: fr) σ Q):RL X ops (o :: rest) fr σ Q :=
  zgY ⟨x,fr,σ⟩ hw (by rw [hdst];exact hd) ho ha hc rfl (by rw [hdst];exact h)
theorem zok {f:FuncId} {xs:Array Operand} {ats:Array TypeId} {args:List VV} {e:TypeId} {sz:Nat} {rows:List (List D)} {d:Nat} (hw:wantA ops o fr=some true) (hdst:o.dst=some d) (hd:Nat.blt d X.nt=true) (ho:o.op=.call { callee:=.value (.func f),args:=xs,argTypes:=ats })
    (ha:argsL fr xs.toList=some args) (hc:CallsV X.P f args (.own e sz rows)) (h:RL X ops rest ((d,.one (.own d rows)) :: stripF d fr) ((d,.tok e sz) :: stripS d σ) Q):RL X ops (o :: rest) fr σ Q :=
  zgY ⟨.one (.own d rows),stripF d fr,(d,.tok e sz) :: stripS d σ⟩ hw (by rw [hdst];exact hd) ho ha hc (by rw [hdst];rfl) (by rw [hdst];exact h)
theorem zcI {z:Int} (h1 : -9223372036854775808≤z) (h2:z≤9223372036854775807):IntKind.i64.wrap z=z:=IntWalk.i64_in z ⟨h1,h2⟩
theorem RL_i (hT:Good X) {d:Nat} {z:Int} (hw:wantA ops o fr=some true) (hdst:o.dst=some d) (hd:Nat.blt d X.nt=true) (hv:aop X o fr σ=some ⟨.one (.d (.v (.int .i64 (IntKind.i64.wrap z)))),fr,σ⟩) (h1 : -9223372036854775808≤z) (h2:z≤9223372036854775807)
    (h:RL X ops rest ((d,.one (.d (.v (.int .i64 z)))) :: fr) σ Q):RL X ops (o :: rest) fr σ Q :=
  RL_p hT hw hdst hd hv (by rw [zcI h1 h2];exact h)
theorem znN (hT:Good X) {d:Nat} {t:TypeId} {xx ix:Operand} {rows:List (List D)} {n:Int} {i e:TyI} {q:List D} (hw:wantA ops o fr=some true) (hdst:o.dst=some d) (hd:Nat.blt d X.nt=true) (ho:o.op=.indexAddr t xx ix)
    (h1:(ev fr xx).bind rowsV=some rows) (h2:(ev fr ix).bind intV=some n) (h3:X.Ty t=some i) (h4:X.Ty i.elem=some e) (htag:i.tag=2) (hq:rows[n.toNat]?=some q) (h0:0≤n) (hl:q.length=e.size) (h:RL X ops rest ((d,.one (.d (.pi q))) :: fr) σ Q):RL X ops (o :: rest) fr σ Q :=
  RL_p hT hw hdst hd (by unfold aop;simp only [ho,h1,h2,h3,h4,hq];rw [if_pos ⟨h0,hl,htag⟩]) h
theorem zlL {α:Type} {l:List α} {k:Nat} {q:α} (f:α→List D) (h:l[k]?=some q):(l.map f)[((k:Nat):Int).toNat]?=some (f q):=by
  rw [Int.toNat_natCast,List.getElem?_map,h];rfl
theorem zp3 (hT:Good X) {d:Nat} {t:TypeId} {p:Operand} {q:List D} {i:TyI} (hw:wantA ops o fr=some true) (hdst:o.dst=some d) (hd:Nat.blt d X.nt=true) (ho:o.op=.load t p)
    (h1:ev fr p=some (.one (.d (.pi q)))) (h2:X.Ty t=some i) (ha:i.agg=true) (hl:q.length=i.size) (h:RL X ops rest ((d,.dat q) :: fr) σ Q):RL X ops (o :: rest) fr σ Q :=
  RL_p hT hw hdst hd (by unfold aop;simp only [ho,h1,h2,loadA,ha,if_true,hl,and_self,Option.map_some]) h
theorem zpT (hT:Good X) {d:Nat} {t:TypeId} {xx:Operand} {cs:List D} {i:TyI} (hw:wantA ops o fr=some true) (hdst:o.dst=some d) (hd:Nat.blt d X.nt=true) (ho:o.op=.box t xx) (hx:ev (stripF d fr) xx=some (.dat cs)) (hi:X.Ty t=some i) (ha:i.agg=true) (hl:cs.length=i.size)
    (h:RL X ops rest ((d,.one (.po d 0)) :: stripF d fr) ((d,.box t cs) :: stripS d σ) Q):RL X ops (o :: rest) fr σ Q :=
  RL_n hT hw hdst hd (by unfold aop;simp only [ho,hdst,hi,ha,hx,hl,if_true,newOb]) h
theorem zp6 (hT:Good X) {d k:Nat} {t ty:TypeId} {p:Operand} {cs:List D} {i:TyI} (hw:wantA ops o fr=some true) (hdst:o.dst=some d) (hd:Nat.blt d X.nt=true) (ho:o.op=.load t p) (hp:ev fr p=some (.one (.po k 0))) (hk:look σ k=some (.box ty cs)) (hi:X.Ty t=some i) (ha:i.agg=true) (hl:cs.length=i.size)
    (h:RL X ops rest ((d,.dat cs) :: fr) σ Q):RL X ops (o :: rest) fr σ Q :=
  RL_p hT hw hdst hd (by unfold aop;simp only [ho,hi,hp,hk,loadA,ha,if_true,hl,and_self,Option.map_some]) h
theorem zeQ {cs ds:List D} (h:ds.length=cs.length):splice cs 0 ds=ds:=by
  unfold splice
  split
  · match cs,h with | [c],_=>rfl
  · rw [if_pos ⟨rfl,h⟩]
theorem zqj (hT:Good X) {k:Nat} {t ty:TypeId} {p xx:Operand} {cs ds:List D} {i:TyI} (hw:wantA ops o fr=some true) (hdst:o.dst=none) (ho:o.op=.store t p xx) (hp:ev fr p=some (.one (.po k 0))) (hk:look σ k=some (.box ty cs)) (hx:ev fr xx=some (.dat ds)) (hi:X.Ty t=some i) (hl:ds.length=i.size) (hl2:cs.length=i.size)
    (h:RL X ops rest fr ((k,.box ty ds) :: σ) Q):RL X ops (o :: rest) fr σ Q :=
  RL_s hT hw hdst (by unfold aop;simp only [ho,hi,hp,hx,hdst,hk,cellsV];rw [if_pos ⟨hl,by omega⟩,zeQ (hl.trans hl2.symm)]) h
theorem zaT (sz:Nat) (fr:Fr) (n:Nat):layR sz fr n []=some []:=rfl
theorem zaj {sz n:Nat} {xx:Operand} {ds:List D} {ps:List (Nat × Operand)} {rows:List (List D)} (h1:(ev fr xx).bind cellsV=some ds) (h2:ds.length=sz) (h3:layR sz fr (n+1) ps=some rows):layR sz fr n ((n,xx) :: ps)=some (ds :: rows):=by
  simp only [layR,h1,h3];rw [if_pos ⟨trivial,h2⟩];rfl
theorem zql (hT:Good X) {d n:Nat} {t:TypeId} {ps:Array (Nat × Operand)} {i e:TyI} {rows:List (List D)} (hw:wantA ops o fr=some true) (hdst:o.dst=some d) (hd:Nat.blt d X.nt=true) (ho:o.op=.buildSlice t n ps) (hi:X.Ty t=some i) (ht:i.tag=2) (he:X.Ty i.elem=some e) (hr:layR e.size (stripF d fr) 0 ps.toList=some rows) (hn:n=rows.length) (hb:n * e.size≤16777216)
    (h:RL X ops rest ((d,.one (.own d rows)) :: stripF d fr) ((d,.tok i.elem e.size) :: stripS d σ) Q):RL X ops (o :: rest) fr σ Q :=
  RL_n hT hw hdst hd (by unfold aop;simp only [ho,hdst,hi,he,hr];rw [if_pos ⟨hn,hb,ht⟩]) h
theorem zaE (pl:List (Nat × Nat)) (fr:Fr) (cs:List D):layF pl fr [] cs=some cs:=rfl
theorem zaf {pl:List (Nat × Nat)} {f off s:Nat} {xx:Operand} {cs ds r:List D} {ps:List (Nat × Operand)} (h1:pl[f]?=some (off,s)) (h2:(ev fr xx).bind cellsV=some ds) (h3:ds.length=s) (h4:off+s≤cs.length) (h5:layF pl fr ps (splice cs off ds)=some r):layF pl fr ((f,xx) :: ps) cs=some r:=by
  simp only [layF,h1,h2];rw [if_pos ⟨h3,h4⟩];exact h5
theorem zqi (hT:Good X) {d:Nat} {t:TypeId} {ps:Array (Nat × Operand)} {i:TyI} {cs:List D} (hw:wantA ops o fr=some true) (hdst:o.dst=some d) (hd:Nat.blt d X.nt=true) (ho:o.op=.build t ps) (hi:X.Ty t=some i) (ht:i.tag=1) (hl:layF i.places fr ps.toList (i.zero.map zc)=some cs)
    (h:RL X ops rest ((d,.dat cs) :: fr) σ Q):RL X ops (o :: rest) fr σ Q :=
  RL_p hT hw hdst hd (by unfold aop;simp only [ho,hi,hl,Option.map_some];rw [if_pos ht]) h
def Sub {α:Type} (l' l:List (Nat × α)):Prop:=∀ t x,look l' t=some x→look l t=some x
theorem zka {α:Type} (l:List (Nat × α)):Sub [] l:=fun t x h=>by simp [look] at h
theorem ziD {α:Type} {l' l:List (Nat × α)} {t:Nat} {x:α} (h:look l t=some x) (k:Sub l' l):Sub ((t,x) :: l') l:=fun t' y hy=>by
  simp only [look] at hy
  split at hy
  · rename_i e;injection hy with hy;subst hy;subst e;exact h
  · exact k t' y hy
theorem subA {α:Type} {l m:List (Nat × α)} (h:Sub l m:=by repeat (first|exact zka _|refine ziD (by rfl) ?_)):Sub l m:=h
theorem zay {c:Code} {Q:Exit→Fr→Obs→Prop} {α:Type} (F:α→Fr) (G:α→Obs) (P:α→Prop) (μ:α→Nat) (s0:α) (h0:P s0) (hF:Sub (F s0) fr) (hG:Sub (G s0) σ)
    (round:∀ s,P s→W X c (F s) (G s) (thenQ (fun fr' σ'=>∃ s',μ s' < μ s∧P s'∧Sub (F s') fr'∧Sub (G s') σ') Q)):W X (.loop c) fr σ Q:=by
  refine zpS (fun n fr σ=>∃ s,n=μ s∧P s∧Sub (F s) fr∧Sub (G s) σ) (fun n fr σ ⟨s,hn,hp,hf,hg⟩=>?_) (μ s0) ⟨s0,rfl,h0,hF,hG⟩
  refine ((round s hp).weak hf hg).conseq fun e fr' σ' hq=>?_
  cases e with
  | normal=>obtain ⟨s',h1,h2,h3,h4⟩:=hq;exact ⟨μ s',hn ▸ h1,s',rfl,h2,h3,h4⟩
  | exit id=>exact hq
  | goto l=>exact hq
  | ret=>exact hq
  | panic ch=>exact hq
  | outgrown=>exact hq
theorem RD.lim_ {rows:List (List D)} {v:Value} (h:RD S w (.sl rows) v):rows.length≤281474976710656:=by cases h;assumption
theorem zmj {c:Code} {Q:Exit→Fr→Obs→Prop} {k j:Nat} {ty:TypeId} {cs:List D} {rows:List (List D)} (hl:look σ k=some (.box ty cs)) (hj:cs[j]?=some (.sl rows)) (h:rows.length≤281474976710656→W X c fr σ Q):W X c fr σ Q :=
  ⟨fun γ T S w a hr=>by
    obtain ⟨us,_,h2,_⟩:=hr.st.obj k _ hl
    obtain ⟨u,_,h3⟩:=h2.2 j _ hj
    exact (h h3.lim_).out γ T S w a hr⟩
theorem zbm {c:Code} {Q:Exit→Fr→Obs→Prop} {t:Nat} {x:VV} {rows:List (List D)} (hl:look fr t=some x) (hx:rowsV x=some rows) (h:rows.length≤281474976710656→W X c fr σ Q):W X c fr σ Q :=
  ⟨fun γ T S w a hr=>(h (zaR hx (hr.fr t x hl)).lim_).out γ T S w a hr⟩
theorem zab {rs:List ResultVar} {y y':VV} (h:(retV X fr σ rs).bind dataV=some y') (e:y'=y):EndQ X rs (.val y) .ret fr σ:=by subst e;exact h
theorem zqb {rs:List ResultVar} {y y':VV} (h:(retV X fr σ rs).bind dataV=some y') (e:y'=y):EndQ X rs (.val y) .normal fr σ:=by subst e;exact h
theorem zbZ {rs:List ResultVar} {e:TypeId} {sz k:Nat} {rows rows':List (List D)} (h:retV X fr σ rs=some (.one (.own k rows'))) (hk:look σ k=some (.tok e sz)) (hr:rows'=rows):EndQ X rs (.own e sz rows) .ret fr σ:=by subst hr;exact ⟨k,h,hk⟩
theorem zaG {a b:Int} (h:a=b):(VV.one (.d (.v (.int .i64 a))))=.one (.d (.v (.int .i64 b))):=by rw [h]
theorem zao {a b:Bool} (h:a=b):(VV.one (.d (.v (.bool a))))=.one (.d (.v (.bool b))):=by rw [h]
end
end Go.Proofs.YtiplihojmfbjkaaGreat
namespace Go.Proofs.YtiplihojmfbjkaaGreat
open Go.RowKit
structure Val where
  kind:Int
  n:Int
  f:Nat
  s:ByteArray
structure E where
  kind:Int
  name:ByteArray
  val:Val
  kids:List E
structure Pt where
  kind:Int
  var:ByteArray
  dir:Int
  label:E
  wher:E
  min:Int
  max:Int
  kids:List Pt
def zVal:Val:=⟨0,0,0,⟨#[]⟩⟩
def zE:E:=⟨0,⟨#[]⟩,zVal,[]⟩
def emptyS (s:ByteArray):Bool:=s.toList.isEmpty
def zeroV (v:Val):Bool:=v.kind==0&&(v.n==0&&(Op.floatEq .f64 v.f 0&&emptyS v.s))
def bareV (v:Val):Bool:=v.kind==0&&v.n==0&&emptyS v.s&&Op.floatEq .f64 v.f 0
def letterN (n:Nat):Bool:=decide ((65≤n∧n≤90)∨(97≤n∧n≤122)∨n=95)
def okN (first:Bool) (n:Nat):Bool:=letterN n || (!first&&decide (48≤n∧n≤57))
def allW:Bool→List UInt8→Bool
  | _,[]=>true
  | b,c :: l=>okN b c.toNat&&allW false l
def word (s:ByteArray):Bool:=allW true s.data.toList&&(!emptyS s&&decide (s.size≤40))
def arity (k:Int):Option (Nat × Bool) :=
  if k=4 then some (0,true) else if k=5 then some (0,false) else if k=6 then some (1,false) else if k=7 then some (2,false) else if k=8 then some (2,false) else none
def term:Nat→E→Bool
  | 0,_=>false
  | n+1,e=>match arity e.kind with
    | none=>false
    | some (k,named)=>e.kids.length==k&&bareV e.val&&(named==word e.name)&&(named || emptyS e.name)&&e.kids.all (term n)
def labelRight (e:E):Bool:=if e.kind=0 then emptyS e.name&&bareV e.val&&e.kids.isEmpty else term 50 e
def depthE:Nat→E→Nat
  | 0,_=>1
  | n+1,e=>e.kids.foldl (fun d k=>max d (depthE n k)) 0+1
theorem zfC (e:E):depthE 0 e=1:=by rw [depthE]
theorem zdF (n:Nat) (e:E):depthE (n+1) e=e.kids.foldl (fun d k=>max d (depthE n k)) 0+1:=by rw [depthE]
theorem zdr {α:Type} (f:α→Nat) (B:Nat):∀ (l:List α) (d:Nat),d≤B→(∀ x∈l,f x≤B)→l.foldl (fun d k=>max d (f k)) d≤B
  | [],_,h,_=>h
  | x :: l,d,h,hx=>by
    rw [List.foldl_cons]
    exact zdr f B l _ (Nat.max_le.2 ⟨h,hx x (by simp)⟩) (fun y hy=>hx y (by simp [hy]))
theorem zeY:∀ (n:Nat) (e:E),depthE n e≤n+1
  | 0,e=>by rw [zfC];omega
  | n+1,e=>by
    rw [zdF]
    have:=zdr (depthE n) (n+1) e.kids 0 (by omega) (fun x _=>zeY n x)
    omega
def nanBits:Nat:=9221120237041090561
def canon (f:Nat):Nat:=if Op.floatEq .f64 f f=true then f else nanBits
def valueRight (v:Val):Bool :=
  if v.kind=0 then v.n==0&&emptyS v.s&&v.f==0
  else if v.kind=1 then (v.n==0 || v.n==1)&&emptyS v.s&&v.f==0
  else if v.kind=2 then emptyS v.s&&v.f==0
  else if v.kind=3 then v.n==0&&emptyS v.s&&v.f==canon v.f
  else if v.kind=4 then v.n==0&&v.f==0
  else false
end Go.Proofs.YtiplihojmfbjkaaGreat
namespace Go.Proofs.YtiplihojmfbjkaaGreat
open Go.RowKit
def dI (n:Int):D:=.v (.int .i64 n)
def dB (b:Bool):D:=.v (.bool b)
abbrev vI (n:Int):VV:=.one (.d (.v (.int .i64 n)))
abbrev vB (b:Bool):VV:=.one (.d (.v (.bool b)))
abbrev vS (s:ByteArray):VV:=.one (.d (.v (.string s)))
abbrev vL (r:List (List D)):VV:=.one (.d (.sl r))
def encV (v:Val):List D:=[.v (.int .i64 v.kind),.v (.int .i64 v.n),.v (.float .f64 v.f),.v (.string v.s)]
mutual
def encE:E→List D
  | ⟨k,n,v,l⟩=>[.v (.int .i64 k),.v (.string n),.v (.int .i64 v.kind),.v (.int .i64 v.n),.v (.float .f64 v.f),.v (.string v.s),.sl (encEs l)]
def encEs:List E→List (List D)
  | []=>[]
  | e :: l=>encE e :: encEs l
end
theorem zlv (l:List E):encEs l=l.map encE:=by
  induction l with
  | nil=>rfl
  | cons e l ih=>rw [encEs,ih,List.map_cons]
theorem zbw (e:E):encE e=[.v (.int .i64 e.kind),.v (.string e.name),.v (.int .i64 e.val.kind),.v (.int .i64 e.val.n),.v (.float .f64 e.val.f),.v (.string e.val.s),.sl (e.kids.map encE)]:=by
  cases e with|mk k n v l=>rw [encE,zlv]
theorem zal (e:E):(encE e).length=7:=by rw [zbw];rfl
theorem zaY (l:List E):sized 7 (l.map encE)=true:=by
  simp [sized,zal]
theorem E.ind {P:E→Prop} (h:∀ e,(∀ k∈e.kids,P k)→P e):∀ e,P e
  | ⟨k,n,v,l⟩=>h _ fun x _=>E.ind h x
termination_by e=>SizeOf.sizeOf e
decreasing_by
  have:=List.sizeOf_lt_of_mem (show x∈l from by assumption)
  simp only [E.mk.sizeOf_spec]
  omega
def encS (s:ByteArray):List D:=[.v (.string s)]
theorem zai (l:List ByteArray):sized 1 (l.map encS)=true:=by simp [sized,encS]
end Go.Proofs.YtiplihojmfbjkaaGreat
