/- Functions that panic: contracts,and code that ends by a panic. -/
import Derived.Test.YtiplihojmfbjkaaGreatMB
import Derived.Orders
import Derived.Test.YtiplihojmfbjkaaGreatWM
import Derived.Test.YtiplihojmfbjkaaGreatWI
set_option maxRecDepth 100000
namespace Go.Proofs.YtiplihojmfbjkaaGreat
open Go.RowKit
section
variable {X:Ctx} {γ γ':Nat→Nat} {T T':Nat→Value} {S S':Nat→Nat→Prop} {w w':World} {fr:Fr} {σ σ0 σ1:Obs} {a:Act} {o:Oper}
def chainP (pv:Value):List PanicEntry:=[{ v:=pv,recovered:=false }]
structure CallsP (P:Program) (f:FuncId) (args:List VV) (σ0:Obs) (pv:Value):Prop where
  ent:Enters P f
  out:∀ (N:Nat→Prop) (γ:Nat→Nat) (T:Nat→Value) (S:Nat→Nat→Prop) (w:World) (vs:List Value),St (ictx P w N S (pinM σ0 γ)) γ T S w σ0→ArgsGR γ T S w args vs→
    Calls P f vs.toArray w (fun ex w'=>∃ γ' T' S',ex=.panicked (chainP pv)∧St (ictx P w N S (pinM σ0 γ)) γ' T' S' w' [])
def EndP (pv:Value):Exit→Fr→Obs→Prop
  | .panic ch,_,_=>ch=chainP pv
  | _,_,_=>False
theorem zaZ {P:Program} {Ty:TypeId→Option TyI} {f:FuncId} {fn:Func} {c:Code} {args:List VV} {pv:Value}
    (hf : P.funcs[f]? = some fn) (hname : (fn.name == "runtime.NumGoroutine") = false) (hb : fn.body = some c) (hn : Nat.ble args.length fn.ntmps = true)
    (h:∀ (w0:W0) (S0:Nat→Nat→Prop),(∀ k,pinKey σ0 k=false→w0.pin k=none)→W (ctx P Ty fn.ntmps w0 S0) c (argsF args) σ0 (EndP pv)):CallsP P f args σ0 pv:=by
  have hent:Enters P f:=fun xs w=>by
    have h1 : fn.name ≠ "runtime.NumGoroutine" := by simpa using hname
    simp [callFunc,hf,h1,hb]
  refine ⟨hent,fun N γ T S w vs hst ha=>calls_of_wp hf hb ?_⟩
  have hle:vs.length≤fn.ntmps:=by rw [ha.1];exact Nat.le_of_ble_eq_true hn
  have hr:Rel (ctx P Ty fn.ntmps ⟨w,N,pinM σ0 γ,[]⟩ S) γ T S w (argsF args) σ0 { tmps:=vs.toArray++Array.replicate (fn.ntmps - vs.toArray.size) undef,defers:=[] }:=by
    refine ⟨⟨hst.keep,hst.lt,hst.nlt,hst.set,hst.mon,fun k o ho=>(hst.obj k o ho).cx (fun b hb=>(hst.obj k o ho).free hb) (fun b hb=>?_),hst.dis⟩,fun t y hy=>?_,by simp [ctx];omega,rfl⟩
    · have hb:(if k < fn.ntmps then none else pinM σ0 γ k)=some b:=hb
      split at hb
      · cases hb
      · exact (zcD hb).1.symm
    · obtain ⟨_,h2⟩:=zbJ args 0 t y hy
      rw [Nat.sub_zero] at h2
      have hlt:t < vs.length:=by rw [ha.1];exact (List.getElem?_eq_some_iff.1 h2).1
      have hv:vs[t]?=some vs[t]:=List.getElem?_eq_getElem hlt
      have e:(vs.toArray++Array.replicate (fn.ntmps - vs.toArray.size) undef).getD t undef=vs[t]:=by
        rw [Array.getD_eq_getD_getElem?,Array.getElem?_append_left (by simpa using hlt)]
        simp [hv]
      rw [e]
      exact ha.2 t y _ h2 hv
  refine Code.wp_mono (fun ex a' w' hq=>?_) ((h ⟨w,N,pinM σ0 γ,[]⟩ S (fun k hk=>by
    show pinM σ0 γ k=none
    unfold pinKey at hk;unfold pinM
    cases hl:look σ0 k with
    | none=>rfl
    | some ob =>
      rw [hl] at hk
      dsimp only at hk ⊢
      rw [if_neg (by rw [hk];exact Bool.false_ne_true)])).out _ _ _ _ _ hr)
  obtain ⟨γ',T',S',fr,σ,hr',hq⟩:=hq
  cases ex with
  | panic ch =>
    obtain rfl:ch=chainP pv:=hq
    exact ⟨hr'.df,γ',T',S',rfl,hr'.st.keep,hr'.st.lt,hr'.st.nlt,hr'.st.set,hr'.st.mon,fun k o hk=>by simp [look] at hk,fun k k' o o' hk=>by simp [look] at hk⟩
  | normal=>exact hq.elim
  | ret=>exact hq.elim
  | exit id=>exact hq.elim
  | goto l=>exact hq.elim
  | outgrown=>exact hq.elim
theorem zeh {a:Act} {d:Nat} (v:Value) (h:d < a.tmps.size):(a.put (some d) v).tmps.getD d undef=v:=by
  simp [Act.put,h]
theorem zmJ {P:Program} {o:Oper} {a:Act} {w:World} {K K':Act→World→Prop} {Q Q':Exit→Act→World→Prop} (h:∀ a w,K a w→K' a w) (hp:∀ ch a w,Q (.panic ch) a w→Q' (.panic ch) a w) (hx:LetsOut Q→LetsOut Q')
    (hh:o.wp P a w K Q):o.wp P a w K' Q':=by
  unfold Oper.wp at *
  generalize (execOp a.eval o).run P w=r at *
  cases r with
  | ok n w' =>
    cases n<;>simp only [Oper.upon] at hh ⊢ <;>
      first
        | exact h _ _ hh
        | exact Calls.mono hh (fun e w'' he=>by cases e<;>first|exact h _ _ he|exact hp _ _ _ he|exact hx he)
        | exact Rows.mono hh (fun _ _ he=>h _ _ he)
  | halt x w'=>cases x<;>simp only [Oper.upon] at hh ⊢ <;> exact hp _ _ _ hh
def thenW (N:Act→World→Prop) (Q:Exit→Act→World→Prop):Exit→Act→World→Prop
  | .normal,a,w=>N a w
  | e,a,w=>Q e a w
theorem zd7 {P:Program} {ops:Array Oper} {Q:Exit→Act→World→Prop} {l2:List Oper}:∀ (l1:List Oper) (a:Act) (w:World),wpList P ops (thenW (wpList P ops Q l2) Q) l1 a w→wpList P ops Q (l1++l2) a w
  | [],_,_,h=>h
  | o :: l1,a,w,h=>by
    rw [List.cons_append]
    unfold wpList at h ⊢
    split
    · rename_i hw
      rw [if_pos hw] at h
      refine h.imp (zmJ (fun a w=>zd7 l1 a w) (fun _ _ _ h=>h) fun ⟨a,w,h⟩=>⟨a,w,h⟩) fun ⟨h1,h2⟩=>⟨h1,let ⟨a,w,h⟩:=h2;⟨a,w,h⟩⟩
    · rename_i hw
      rw [if_neg hw] at h
      exact zd7 l1 _ w h
def PStep (X:Ctx) (ops:Array Oper) (o:Oper) (fr:Fr) (σ:Obs) (Qp:List PanicEntry→Fr→Obs→Prop):Prop :=
  ∀ γ T S w a (K:Act→World→Prop) (QQ:Exit→Act→World→Prop),Rel X γ T S w fr σ a→(∀ ch γ T S w a fr σ,Rel X γ T S w fr σ a→Qp ch fr σ→QQ (.panic ch) a w)→
    Region.wanted o (yielded ops a.tmps)=true∧o.wp X.P a w K QQ
theorem ziW {α:Type} {l:List α} {n:Nat} {o:α} (ho:l[n]?=some o):l=l.take n++o :: l.drop (n+1):=by
  obtain ⟨hn,rfl⟩:=List.getElem?_eq_some_iff.1 ho
  rw [← List.drop_eq_getElem_cons hn,List.take_append_drop]
theorem zoV (n:Nat) {id:Nat} {l:List Oper} {o:Oper} {QQ:Exit→Fr→Obs→Prop} (ho:l[n]?=some o) (h:RL X l.toArray (l.take n) fr σ (fun fr σ=>PStep X l.toArray o fr σ (fun ch fr σ=>QQ (.panic ch) fr σ))):W X (.region id l.toArray false) fr σ QQ :=
  ⟨fun γ T S w a hr=>wp_region_lit ((congrArg (fun m=>wpList X.P l.toArray (LQ X QQ) m a w) (ziW ho)).mpr (zd7 _ _ _ (h.out γ T S w a (thenW (wpList X.P l.toArray (LQ X QQ) (o :: l.drop (n+1))) (LQ X QQ)) hr fun γ T S w a fr σ hr hq=>by
    show wpList X.P l.toArray (LQ X QQ) (o :: l.drop (n+1)) a w
    unfold wpList
    obtain ⟨h1,h2⟩:=hq γ T S w a (wpList X.P l.toArray (LQ X QQ) (l.drop (n+1))) (LQ X QQ) hr (fun ch γ T S w a fr σ hr hq=>⟨γ,T,S,fr,σ,hr,hq⟩)
    rw [if_pos h1]
    exact .inl h2)))⟩
def callF (o:Oper):Option FuncId:=match o.op with
  | .call { callee:=.value (.func f),.. }=>some f
  | _=>none
theorem zb6 (n:Nat) (f:FuncId) {id:Nat} {l:List Oper} {o:Oper} {QQ:Exit→Fr→Obs→Prop} (ho:l[n]?=some o) (_hf:callF o=some f) (h:RL X l.toArray (l.take n) fr σ (fun fr σ=>PStep X l.toArray o fr σ (fun ch fr σ=>QQ (.panic ch) fr σ))):W X (.region id l.toArray false) fr σ QQ:=zoV n ho h
variable {ops:Array Oper} {Qp:List PanicEntry→Fr→Obs→Prop}
theorem zkJ (L:List Nat) {f:FuncId} {x:Operand} {xs:Array Operand} {ats:Array TypeId} {args cs:List VV} {pv:Value} (hw:wantA ops o fr=some true) (ho:o.op=.call { callee:=.value x,args:=xs,argTypes:=ats }) (hx:calleeG fr x=some (f,cs))
    (ha:argsG fr xs.toList=some args) (hc:CallsP X.P f (args++cs) σ0 pv) (hσ:∀ p∈σ0,look σ p.1=some p.2) (hok:okM σ0 [] L=true) (h:∀ fr σ,Qp (chainP pv) fr σ):PStep X ops o fr σ Qp:=by
  intro γ T S w a K QQ hr hq
  refine ⟨zam hr hw,?_⟩
  obtain ⟨us,hu1,hu2⟩:=zbR hr hx
  unfold Oper.wp
  rw [zbN ho hu1,hc.ent]
  refine (hc.out _ γ T S w _ (hr.toM hσ) ((zbU hr ha).app hu2)).mono fun ex w' he=>?_
  obtain ⟨γ',T',S',rfl,hst⟩:=he
  obtain ⟨γ2,T2,hr2,_,_⟩:=hr.backM L hσ hst hok (fun k hk=>by cases hk)
  exact hq _ _ _ _ _ _ _ _ hr2 (h _ _)
theorem zoX {rest:List Oper} {Q:Fr→Obs→Prop} {d:Nat} {x:VV} (hw:wantA ops o fr=some true) (hdst:o.dst=some d) (hd:Nat.blt d X.nt=true)
    (hraw:∀ γ T S w a,Rel X γ T S w fr σ a→ ∃ v w' S',(execOp a.eval o).run X.P w=.ok (.value v) w'∧Grows S S' w w'∧ ∀ γ T,RV γ T S' w' x v) (h:RL X ops rest ((d,x) :: fr) σ Q):RL X ops (o :: rest) fr σ Q :=
  ⟨fun γ T S w a K hr hk=>wpList_step fun K' hK=>by
    rw [if_pos (zam hr hw)]
    obtain ⟨v,w',S',h1,⟨g1,g2,g3⟩,h2⟩:=hraw γ T S w a hr
    unfold Oper.wp
    rw [h1]
    refine hK _ _ (h.out γ T S' w' _ K ?_ hk)
    rw [hdst]
    exact (hr.grow g1 g2 g3).put (dst:=some d) hd (h2 γ T)⟩
theorem zn0 {id:Nat} {oB oI oP:Oper} {dB dI:Nat} {vb pv:Value} {QQ:Exit→Fr→Obs→Prop} (gB:oB.guard=none) (gI:oI.guard=none) (gP:oP.guard=none) (hdB:oB.dst=some dB) (hdI:oI.dst=some dI) (lB:dB < X.nt) (lI:dI < X.nt)
    (hB:∀ (a:Act) (w:World),(execOp a.eval oB).run X.P w=.ok (.value vb) w) (hI:∀ (a:Act) (w:World),a.tmps.getD dB undef=vb→(execOp a.eval oI).run X.P w=.ok (.value pv) w) (hP:∀ (a:Act) (w:World),a.tmps.getD dI undef=pv→(execOp a.eval oP).run X.P w=.halt (.panic pv) w)
    (h:∀ fr σ,QQ (.panic (chainP pv)) fr σ):W X (.region id [oB,oI,oP].toArray false) fr σ QQ :=
  ⟨fun γ T S w a hr=>wp_region_lit (wpList_plain gB fun K1 hK1=>by
    unfold Oper.wp
    rw [hB a w,Oper.upon_value,hdB]
    have hr1:=hr.put (dst:=some dB) (x:=.junk) (v:=vb) (by simpa [inF] using lB) (.junk _)
    have e1:(a.put (some dB) vb).tmps.getD dB undef=vb:=zeh vb (by rw [hr.nt];exact lB)
    refine hK1 _ _ (wpList_plain gI fun K2 hK2=>?_)
    unfold Oper.wp
    rw [hI _ w e1,Oper.upon_value,hdI]
    have hr2:=hr1.put (dst:=some dI) (x:=.junk) (v:=pv) (by simpa [inF] using lI) (.junk _)
    have e2:((a.put (some dB) vb).put (some dI) pv).tmps.getD dI undef=pv:=zeh pv (by rw [hr1.nt];exact lI)
    refine hK2 _ _ (wpList_plain gP fun K3 _=>?_)
    unfold Oper.wp
    rw [hP _ w e2,Oper.upon_panic]
    exact ⟨γ,T,S,_,_,hr2,h _ _⟩)⟩
end
section
variable {nt:Nat} {w0:W0} {S0:Nat→Nat→Prop} {fr:Fr} {σ τ0:Obs} {ops:Array Oper} {o:Oper} {Qp:List PanicEntry→Fr→Obs→Prop} {xx:Operand}
theorem uPan {f:FuncId} {xs:Array Operand} {ats:Array TypeId} {args cs all:List VV} {L:List Nat} {pv:Value} (hc:CallsP Tryz.prog f all τ0 pv) (h:∀ fr σ,Qp (chainP pv) fr σ) (ho:o.op=.call { callee:=.value xx,args:=xs,argTypes:=ats }:=by rfl) (hx:calleeG fr xx=some (f,cs):=by rfl) (hw:wantA ops o fr=some true:=by rfl)
    (ha:argsG fr xs.toList=some args:=by rfl) (hall:args++cs=all:=by rfl) (hσ:gHas σ τ0:=by (repeat (first|exact zcO _|refine zcC (by rfl) ?_))) (_hL:autoL τ0 []=L:=by first|((try simp only [autoL,keyIn,pinny,zap,zeg,List.filter_cons,List.filter_nil,Nat.reduceEqDiff,if_true,if_false,reduceIte,Bool.not_true,Bool.not_false,Bool.and_true,Bool.true_and,Bool.and_self,Bool.and_false,Bool.false_and,Option.isSome_some,Option.isSome_none,List.map_cons,List.map_nil,List.nil_append,List.cons_append,List.append_nil,Bool.false_eq_true])<;>rfl)|rfl) (hok:okM τ0 [] L=true:=by rfl):PStep (cx nt w0 S0) ops o fr σ Qp :=
  zkJ (X:=cx nt w0 S0) L hw ho hx ha (by rw [hall];exact hc) hσ.all hok h
theorem uRaw {rest:List Oper} {Q:Fr→Obs→Prop} {d:Nat} {x:VV} (hraw:∀ γ T S w a,Rel (cx nt w0 S0) γ T S w fr σ a→ ∃ v w' S',(execOp a.eval o).run Tryz.prog w=.ok (.value v) w'∧Grows S S' w w'∧ ∀ γ T,RV γ T S' w' x v) (h:RL (cx nt w0 S0) ops rest ((d,x) :: fr) σ Q)
    (hw:wantA ops o fr=some true:=by rfl) (hdst:o.dst=some d:=by rfl) (hd:Nat.blt d nt=true:=by rfl):RL (cx nt w0 S0) ops (o :: rest) fr σ Q:=zoX (X:=cx nt w0 S0) hw hdst hd hraw h
end
end Go.Proofs.YtiplihojmfbjkaaGreat
namespace Go.Proofs.YtiplihojmfbjkaaGreat
open Go.RowKit
section
variable {X:Ctx} {γ:Nat→Nat} {T:Nat→Value} {S:Nat→Nat→Prop} {w w':World} {fr:Fr} {σ:Obs} {a:Act} {o:Oper} {ops:Array Oper} {rest:List Oper} {Q:Fr→Obs→Prop} {d k m:Nat} {t e:TypeId} {i:TyI} {xx p:Operand} {rows:List (List D)} {x:Value}
theorem zhg (h:RO X γ T S w k (.arr e 1 rows)) (hs:rows[m]?=some [.v x]):w.cell? ⟨γ k,m,none⟩=some x:=by
  obtain ⟨us,h1,h2,h3,_⟩:=h
  obtain ⟨_,h5⟩:=h3 m _ hs
  obtain ⟨u,h6,h7⟩:=h5 0 (.v x) rfl
  have hu:u=x:=by cases h7;rfl
  rw [cell_of_row w _ _ _ _ _ h1]
  simpa [hu] using h6
theorem znO (hT:Good X) (hw:wantA ops o fr=some true) (hdst:o.dst=some d) (hd:Nat.blt d X.nt=true) (ho:o.op=.load t p) (h1:ev fr p=some (.one (.pe k m 0 1))) (hk:look σ k=some (.arr e 1 rows)) (hs:rows[m]?=some [.v x]) (hx1:x.oneCell'=true) (hi:X.Ty t=some i) (ha:i.agg=false)
    (h:RL X ops rest ((d,.one (.d (.v x))) :: fr) σ Q):RL X ops (o :: rest) fr σ Q :=
  ⟨fun γ T S w a K hr hkk=>wpList_step fun K' hK=>by
    rw [if_pos (zam hr hw)]
    obtain ⟨inf,d0,e1,e2,e3,e4,e5,e6,_⟩:=(hT t i hi).get
    have hagg:(isAgg t).run X.P w=.ok false w:=by
      unfold isAgg
      rw [Sem.run_bind,run_underlying e2 w,← ha,← e6]
      cases d0<;>rfl
    have hcell:=zhg (hr.st.obj k _ hk) hs
    have hv:=zae hr h1
    cases hv with
    | one hv =>
      have hev:a.eval p=.pointer (some ⟨γ k,m,none⟩):=by
        have:a.eval p=.pointer (some ⟨γ k,m * 1+0,none⟩):=hv
        simpa using this
      have hex:(execOp a.eval o).run X.P w=.ok (.value x) w:=by
        simp only [execOp,ho,hev,Instr.loadAt,Instr.sureAddr,loadVar,load,Sem.run,Sem.run_bind,Sem.run_pure,Result.andThen_ok,hagg,hcell,Bool.false_eq_true,if_false]
      unfold Oper.wp
      rw [hex]
      refine hK _ _ (h.out γ T S w _ K ?_ hkk)
      rw [hdst]
      exact hr.put (dst:=some d) hd (.one (.v _ hx1))⟩
theorem zpQ (hT:Good X) {rows':List (List D)} (hw:wantA ops o fr=some true) (hdst:o.dst=none) (ho:o.op=.store t p xx) (h1:ev fr p=some (.one (.pe k m 0 1))) (hk:look σ k=some (.arr e 1 rows)) (hm:m < rows.length) (hx:ev fr xx=some (.one (.d (.v x)))) (hx1:x.oneCell'=true) (hrows:rows.take m++[[.v x]]++rows.drop (m+1)=rows') (hi:X.Ty t=some i) (hsz:i.size=1)
    (h:RL X ops rest fr ((k,.arr e 1 rows') :: σ) Q):RL X ops (o :: rest) fr σ Q :=
  ⟨fun γ T S w a K hr hkk=>wpList_step fun K' hK=>by
    rw [if_pos (zam hr hw)]
    obtain ⟨inf,d0,e1,e2,e3,e4,e5,e6,_⟩:=(hT t i hi).get
    have hcs:FlatR S w 1 [[D.v x]] [x]:=FlatR.rep (sz:=1) (q:=[D.v x]) (vs:=[x]) (.cons (.v _ hx1) .nil) rfl 1 [x] rfl fun i' j' hi' hj'=>by
      have e1:i'=0:=by omega
      have e2:j'=0:=by omega
      subst e1;subst e2;rfl
    obtain ⟨cur,g1,g2,g3⟩:=zhr (lo:=m) (m:=1) (hr.st.obj k _ hk) hcs rfl (by omega)
    rw [hrows] at g3
    have hxv:a.eval xx=x:=zaw (zae hr hx)
    have hv:=zae hr h1
    cases hv with
    | one hv =>
      have hev:a.eval p=.pointer (some ⟨γ k,m * 1,none⟩):=by
        have:a.eval p=.pointer (some ⟨γ k,m * 1+0,none⟩):=hv
        simpa using this
      have hcx:x.cells = #[x]:=by cases x<;>first|rfl|cases hx1
      have hst:(storeVar t ⟨γ k,m * 1,none⟩ x).run X.P w=.ok () (w.setRow (γ k) (cur.toList.take (m * 1)++[x]++cur.toList.drop (m * 1+[x].length)).toArray):=by
        have:=run_storeCells_at X.P (γ k) (m * 1) e [x] 0 cur w g1 (by simpa using g2) (by simp [hx1])
        simp only [Nat.add_zero] at this
        simp only [storeVar,Sem.run_bind,zaP e1,e3,hsz,Result.andThen_ok,hcx]
        exact this
      have hexec:(execOp a.eval o).run X.P w=.ok .skip (w.setRow (γ k) (cur.toList.take (m * 1)++[x]++cur.toList.drop (m * 1+[x].length)).toArray):=by
        simp only [execOp,ho,hev,hxv,Instr.storeAt,Instr.sureAddr,Sem.run_bind,Sem.run_pure,Result.andThen_ok,hst]
      unfold Oper.wp
      rw [hexec]
      exact hK _ _ (by
        have:=(hr.chg hk rfl rfl (zcc w _ _) g3).1
        have h9:=h.out γ T S _ a K this hkk
        rw [hdst]
        exact h9)⟩
end
section
variable {nt:Nat} {w0:W0} {S0:Nat→Nat→Prop} {fr:Fr} {σ:Obs} {ops:Array Oper} {o:Oper} {rest:List Oper} {Q:Fr→Obs→Prop} {d k lo n c m:Nat} {t el:TypeId} {i e:TyI} {xx ix p:Operand} {rows rows':List (List D)} {x:Value}
theorem uWix {z:Int} (h:RL (cx nt w0 S0) ops rest ((d,.one (.pe k (lo+z.toNat) 0 1)) :: fr) σ Q) (ho:o.op=.indexAddr t xx ix:=by rfl) (h1:ev fr xx=some (.one (.win k lo n c 1)):=by rfl) (h2:(ev fr ix).bind intV=some z:=by rfl) (h0:0≤z:=by omega) (hlt:z < n:=by omega) (hw:wantA ops o fr=some true:=by rfl) (hdst:o.dst=some d:=by rfl) (hd:Nat.blt d nt=true:=by rfl)
    (hi:Ty t=some i:=by rfl) (htag:i.tag=2:=by rfl) (he:Ty i.elem=some e:=by rfl) (hsz:e.size=1:=by rfl):RL (cx nt w0 S0) ops (o :: rest) fr σ Q :=
  zpv (X:=cx nt w0 S0) zad hw hdst hd ho h1 h2 h0 hlt hi htag he hsz h
theorem uPev (rows':List (List D)) (h:RL (cx nt w0 S0) ops rest fr ((k,.arr el 1 rows') :: σ) Q) (ho:o.op=.store t p xx:=by rfl) (h1:ev fr p=some (.one (.pe k m 0 1)):=by rfl) (hk:look σ k=some (.arr el 1 rows):=by rfl) (hx:ev fr xx=some (.one (.d (.v x))):=by rfl) (hrows:rows.take m++[[.v x]]++rows.drop (m+1)=rows':=by rfl) (hm:m < rows.length:=by first|decide|omega)
    (hw:wantA ops o fr=some true:=by rfl) (hdst:o.dst=none:=by rfl) (hx1:x.oneCell'=true:=by rfl) (hi:Ty t=some i:=by rfl) (hsz:i.size=1:=by rfl):RL (cx nt w0 S0) ops (o :: rest) fr σ Q :=
  zpQ (X:=cx nt w0 S0) zad hw hdst ho h1 hk hm hx hx1 hrows hi hsz h
theorem uPelv (x:Value) (h:RL (cx nt w0 S0) ops rest ((d,.one (.d (.v x))) :: fr) σ Q) (hs:rows[m]?=some [.v x]) (ho:o.op=.load t p:=by rfl) (h1:ev fr p=some (.one (.pe k m 0 1)):=by rfl) (hk:look σ k=some (.arr el 1 rows):=by rfl) (hw:wantA ops o fr=some true:=by rfl) (hdst:o.dst=some d:=by rfl) (hd:Nat.blt d nt=true:=by rfl)
    (hx1:x.oneCell'=true:=by rfl) (hi:Ty t=some i:=by rfl) (ha:i.agg=false:=by rfl):RL (cx nt w0 S0) ops (o :: rest) fr σ Q :=
  znO (X:=cx nt w0 S0) zad hw hdst hd ho h1 hk hs hx1 hi ha h
end
end Go.Proofs.YtiplihojmfbjkaaGreat
namespace Go.Proofs.YtiplihojmfbjkaaGreat
open Go.RowKit
set_option maxHeartbeats 16000000
theorem zaQ (s:ByteArray) (b:Bool) (h:emptyS s=b):(s.toList==ByteArray.toList ⟨#[]⟩)=b:=by
  rw [← h,emptyS,ByteArray.toList_eq,ByteArray.toList_eq]
  cases s.data.toList<;>rfl
theorem zl2 (s:ByteArray) (b:Bool) (h:emptyS s=b):(!(s.toList==ByteArray.toList ⟨#[]⟩))=!b:=by rw [zaQ s b h]
theorem zbe {α β:Type} {g:β→α→β} {l:List α} {k:Nat} {q:α} {b:β} (hq:l[k]?=some q):(l.take (k+1)).foldl g b=g ((l.take k).foldl g b) q:=by
  rw [List.take_add_one,hq,Option.toList_some,List.foldl_append];rfl
theorem ziU:∀ e:E,CallsV Tryz.prog 110 [.dat (encE e)] (.val (vI (countE e))):=E.ind fun e ih=>by
  (refine zaa (Ty:=Ty) zad Tryz.func110 rfl rfl rfl fun w0 S0=>?_;refine enA ?_)
  have hlm:(e.kids.map encE).length=e.kids.length:=List.length_map _
  repeat refine nx ?_
  refine zay (α:=Nat) (fun k=>[(1,.one (.po 1 0)),(3,vI ((e.kids.take k).foldl (fun n q=>IntKind.i64.wrap (n+countE q)) 1)),(4,vI k)]) (fun _=>[(1,.box 31 (encE e))]) (fun k=>k≤e.kids.length) (fun k=>e.kids.length - k) 0 (Nat.zero_le _) subA subA ?_
  intro k hk
  refine zmj (k:=1) (j:=6) (rows:=e.kids.map encE) rfl (by rw [zbw];rfl) fun hlim=>?_
  by_cases hlt:k < e.kids.length
  · obtain ⟨q,hq⟩:∃ q,e.kids[k]?=some q:=⟨_,List.getElem?_eq_getElem hlt⟩
    have hQ:=ih q (List.mem_of_getElem? hq)
    have hnx:=zbe (g:=fun (n:Int) q=>IntKind.i64.wrap (n+countE q)) (b:=1) hq
    repeat (first|refine uC (hQ) ?_|refine nx ?_)
    rw [← hnx]
    exact ⟨k+1,by omega,hlt,subA,subA⟩
  · have hkl:k=e.kids.length:=by omega
    subst hkl
    rw [List.take_length]
    repeat refine nx ?_
    exact zab (by rfl) (zaG (zlg e).symm)
theorem zkR (a b:Nat):(if ((b:Int) > (a:Int)) then (b:Int) else (a:Int))=((max a b:Nat):Int):=by
  split<;>omega
theorem ziw:∀ (n:Nat) (_hn:n≤50) (e:E),CallsV Tryz.prog 254 [.dat (encE e),vI n] (.val (vI (depthE n e)))
  | 0,_,e=>by
    (refine zaa (Ty:=Ty) zad Tryz.func254 rfl rfl rfl fun w0 S0=>?_;refine enA ?_)
    repeat refine nx ?_
    exact zab (by rfl) (zaG (by rw [zfC];rfl))
  | n+1,hn,e=>by
    have ih:∀ q:E,CallsV Tryz.prog 254 [.dat (encE q),vI (((n+1:Nat):Int) - 1)] (.val (vI (depthE n q))):=fun q=>by
      rw [show ((n+1:Nat):Int) - 1=n by omega];exact ziw n (by omega) q
    (refine zaa (Ty:=Ty) zad Tryz.func254 rfl rfl rfl fun w0 S0=>?_;refine enA ?_)
    have hlm:(e.kids.map encE).length=e.kids.length:=List.length_map _
    refine zeo ?_
    repeat refine nx ?_
    refine zay (α:=Nat) (fun k=>[(1,vI ((n+1:Nat):Int)),(2,.one (.po 2 0)),(5,vI (((e.kids.take k).foldl (fun d q=>max d (depthE n q)) 0:Nat):Int)),(11,vL (e.kids.map encE)),(12,vI ((e.kids.map encE).length:Int)),(13,vI k)]) (fun _=>[(2,.box 31 (encE e))]) (fun k=>k≤e.kids.length) (fun k=>e.kids.length - k) 0 (Nat.zero_le _) subA subA ?_
    intro k hk
    refine zbm (t:=11) rfl rfl fun hlim=>?_
    by_cases hlt:k < e.kids.length
    · obtain ⟨q,hq⟩:∃ q,e.kids[k]?=some q:=⟨_,List.getElem?_eq_getElem hlt⟩
      have hQ:=ih q
      have hnx:=zbe (g:=fun (d:Nat) q=>max d (depthE n q)) (b:=0) hq
      repeat (first|refine uC (hQ) ?_|refine nx ?_)
      rw [zkR,← hnx]
      exact ⟨k+1,by omega,hlt,subA,subA⟩
    · have hkl:k=e.kids.length:=by omega
      subst hkl
      rw [List.take_length]
      have hle:=zeY (n+1) e
      rw [zdF] at hle
      repeat refine nx ?_
      exact zab (by rfl) (zaG (by rw [zdF];rfl))
theorem zmQ (e:E):CallsV Tryz.prog 218 [.dat (encE e)] (.val (vI (depthE 50 e))):=by
  have h:=ziw 50 (Nat.le_refl _) e
  have hle:=zeY 50 e
  (refine zaa (Ty:=Ty) zad Tryz.func218 rfl rfl rfl fun w0 S0=>?_;refine enA ?_)
  repeat (first|refine uC (h) ?_|refine nx ?_)
  exact zab (by rfl) (zaG (by rw [if_neg];omega))
def idxF {α:Type} (f:α→Bool):List α→Nat→Int
  | [],_ => -1
  | x :: l,k=>if f x=true then k else idxF f l (k+1)
theorem zdE {α:Type} (f:α→Bool) (x:α) (l:List α) (k:Nat):idxF f (x :: l) k=if f x=true then (k:Int) else idxF f l (k+1):=rfl
theorem zfY {α:Type} (f:α→Bool) (k:Nat):idxF f [] k = -1:=rfl
theorem zfN {α:Type} (f:α→Bool):∀ (l:List α) (k:Nat),decide (0≤idxF f l k)=l.any f
  | [],k=>rfl
  | x :: l,k=>by
    unfold idxF
    rw [List.any_cons]
    cases h:f x with
    | true=>simp
    | false=>rw [if_neg (by decide),zfN f l];simp
theorem zm3 (l:List E) (g:FuncId) (caps:List (List D)) (f:E→Bool) (hg:∀ e∈l,CallsV Tryz.prog g (.dat (encE e) :: caps.map fun q=>.one (.d (.pi q))) (.val (vB (f e)))) :
    CallsV Tryz.prog 252 [vL (l.map encE),.one (.d (.fn g caps))] (.val (vI (idxF f l 0))):=by
  (refine zaa (Ty:=Ty) zad Tryz.func252 rfl rfl rfl fun w0 S0=>?_;refine enA ?_)
  have hlm:(l.map encE).length=l.length:=List.length_map _
  refine zbm (t:=0) rfl rfl fun hlim=>?_
  repeat refine nx ?_
  refine zay (α:=Nat) (fun k=>[(0,vL (l.map encE)),(1,.one (.d (.fn g caps))),(7,vI ((l.map encE).length:Int)),(8,vI k)]) (fun _=>[]) (fun k=>k≤l.length∧idxF f l 0=idxF f (l.drop k) k) (fun k=>l.length - k) 0 ⟨Nat.zero_le _,rfl⟩ subA subA ?_
  intro k ⟨hk,hi⟩
  by_cases hlt:k < l.length
  · obtain ⟨q,hq⟩:∃ q,l[k]?=some q:=⟨_,List.getElem?_eq_getElem hlt⟩
    have hQ:=hg q (List.mem_of_getElem? hq)
    have hd:l.drop k=q :: l.drop (k+1):=by
      rw [List.drop_eq_getElem_cons hlt]
      rw [List.getElem?_eq_getElem hlt] at hq
      injection hq with hq
      rw [hq]
    rw [hd,zdE] at hi
    cases hf:f q with
    | true =>
      rw [hf] at hQ
      rw [hf,if_pos rfl] at hi
      repeat (first|refine uDc (hQ) ?_|refine nx ?_)
      exact zab (by rfl) (zaG hi.symm)
    | false =>
      rw [hf] at hQ
      rw [hf,if_neg (by decide)] at hi
      repeat (first|refine uDc (hQ) ?_|refine nx ?_)
      exact ⟨k+1,by omega,⟨hlt,hi⟩,subA,subA⟩
  · rw [List.drop_of_length_le (by omega),zfY] at hi
    repeat refine nx ?_
    exact zab (by rfl) (zaG hi.symm)
theorem zi9 (l:List E) (g:FuncId) (caps:List (List D)) (f:E→Bool) (hg:∀ e∈l,CallsV Tryz.prog g (.dat (encE e) :: caps.map fun q=>.one (.d (.pi q))) (.val (vB (f e)))) :
    CallsV Tryz.prog 210 [vL (l.map encE),.one (.d (.fn g caps))] (.val (vB (l.any f))):=by
  have hI:=zm3 l g caps f hg
  have hd:=zfN f l 0
  (refine zaa (Ty:=Ty) zad Tryz.func210 rfl rfl rfl fun w0 S0=>?_;refine enA ?_)
  cases ha:l.any f with
  | true =>
    rw [ha,decide_eq_true_eq] at hd
    repeat (first|refine uC (hI) ?_|refine nx ?_)
    exact zab (by rfl) rfl
  | false =>
    rw [ha,decide_eq_false_iff_not] at hd
    repeat (first|refine uC (hI) ?_|refine nx ?_)
    exact zab (by rfl) rfl
end Go.Proofs.YtiplihojmfbjkaaGreat
