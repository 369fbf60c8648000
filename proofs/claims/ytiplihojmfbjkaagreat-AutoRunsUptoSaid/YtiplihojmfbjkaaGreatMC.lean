/- Contracts that say of the result but that something holds of it (and leave one's objects in one of several states). -/
import Derived.Test.YtiplihojmfbjkaaGreatMB
import Derived.Laws.StructEq
namespace Go.Proofs.YtiplihojmfbjkaaGreat
open Go.RowKit
section
variable {X:Ctx} {γ γ' γ2:Nat→Nat} {T T' T2:Nat→Value} {S S':Nat→Nat→Prop} {w w':World} {fr:Fr} {σ σ0 σ1:Obs} {a:Act} {o:Oper}
structure CallsN (P:Program) (f:FuncId) (args:List VV) (σ0:Obs) (R:VV→Obs→Prop):Prop where
  ent:Enters P f
  out:∀ (N:Nat→Prop) (γ:Nat→Nat) (T:Nat→Value) (S:Nat→Nat→Prop) (w:World) (vs:List Value),St (ictx P w N S (pinM σ0 γ)) γ T S w σ0→ArgsGR γ T S w args vs→
    Calls P f vs.toArray w (fun ex w'=>∃ x σ1,R x σ1∧ ∃ v γ' T' S',ex=.returned v∧St (ictx P w N S (pinM σ0 γ)) γ' T' S' w' σ1∧RV γ' T' S' w' x v)
def EndN (X:Ctx) (rs:List ResultVar) (R:VV→Obs→Prop):Exit→Fr→Obs→Prop
  | .normal,fr,σ | .ret,fr,σ=>∃ x σ1,R x σ1∧(∃ y,retVM X fr σ rs=some y∧(y=x∨outG y=x))∧ ∀ p∈σ1,look σ p.1=some p.2
  | _,_,_=>False
theorem zcX {P:Program} {Ty:TypeId→Option TyI} {f:FuncId} {fn:Func} {c:Code} {args:List VV} {R:VV→Obs→Prop} (hT:∀ t i,Ty t=some i→TyOK P t i)
    (hf : P.funcs[f]? = some fn) (hname : (fn.name == "runtime.NumGoroutine") = false) (hb : fn.body = some c) (hn : Nat.ble args.length fn.ntmps = true) (hk0 : (σ0.all fun p => Nat.ble fn.ntmps p.1) = true)
    (h:∀ (w0:W0) (S0:Nat→Nat→Prop),(∀ k,pinKey σ0 k=false→w0.pin k=none)→W (ctx P Ty fn.ntmps w0 S0) c (argsF args) σ0 (EndN (ctx P Ty fn.ntmps w0 S0) fn.results.toList R)):CallsN P f args σ0 R:=by
  have hent:Enters P f:=fun xs w=>by
    have h1 : fn.name ≠ "runtime.NumGoroutine" := by simpa using hname
    simp [callFunc,hf,h1,hb]
  refine ⟨hent,fun N γ T S w vs hst ha=>calls_of_wp hf hb ?_⟩
  have hle:vs.length≤fn.ntmps:=by rw [ha.1];exact Nat.le_of_ble_eq_true hn
  have hr:Rel (ctx P Ty fn.ntmps ⟨w,N,pinM σ0 γ,[]⟩ S) γ T S w (argsF args) σ0 { tmps:=vs.toArray++Array.replicate (fn.ntmps - vs.toArray.size) undef,defers:=[] }:=by
    refine ⟨⟨hst.keep,hst.lt,hst.nlt,hst.set,hst.mon,fun k o ho=>(hst.obj k o ho).cx (fun b hb=>(hst.obj k o ho).free hb) (fun b hb=>?_),hst.dis⟩,fun t y hy=>?_,by simp [ctx];omega,rfl⟩
    · have hb:(if k < fn.ntmps then none else pinM σ0 γ k)=some b:=hb
      split at hb
      · cases hb
      · exact (zcD hb).1.symm
    · obtain ⟨_,h2⟩:=zbJ args 0 t y hy
      rw [Nat.sub_zero] at h2
      have hlt:t < vs.length:=by rw [ha.1];exact (List.getElem?_eq_some_iff.1 h2).1
      have hv:vs[t]?=some vs[t]:=List.getElem?_eq_getElem hlt
      have e:(vs.toArray++Array.replicate (fn.ntmps - vs.toArray.size) undef).getD t undef=vs[t]:=by
        rw [Array.getD_eq_getD_getElem?,Array.getElem?_append_left (by simpa using hlt)]
        simp [hv]
      rw [e]
      exact ha.2 t y _ h2 hv
  refine Code.wp_mono (fun ex a' w' hq=>?_) ((h ⟨w,N,pinM σ0 γ,[]⟩ S (fun k hk=>by
    show pinM σ0 γ k=none
    unfold pinKey at hk;unfold pinM
    cases hl:look σ0 k with
    | none=>rfl
    | some ob =>
      rw [hl] at hk
      dsimp only at hk ⊢
      rw [if_neg (by rw [hk];exact Bool.false_ne_true)])).out _ _ _ _ _ hr)
  obtain ⟨γ',T',S',fr,σ,hr',hq⟩:=hq
  have hfin:(∃ x σ1,R x σ1∧(∃ y,retVM (ctx P Ty fn.ntmps ⟨w,N,pinM σ0 γ,[]⟩ S) fr σ fn.results.toList=some y∧(y=x∨outG y=x))∧(∀ p∈σ1,look σ p.1=some p.2))→ ∃ v,(results fn a'.tmps).run P w'=.ok v w'∧
      ∃ x σ1,R x σ1∧ ∃ v' γ' T' S',Ending.returned v=.returned v'∧St (ictx P w N S (pinM σ0 γ)) γ' T' S' w' σ1∧RV γ' T' S' w' x v':=by
    intro ⟨x,σ1,hR,⟨y,hx1,hx2⟩,hσ⟩
    obtain ⟨v,g1,g2⟩:=zdJ (X:=ctx P Ty fn.ntmps ⟨w,N,pinM σ0 γ,[]⟩ S) hT hr' hx1
    have hlk:∀ k ob,look σ1 k=some ob→look σ k=some ob:=fun k ob hk=>hσ (k,ob) (zaD hk)
    refine ⟨v,g1,x,σ1,hR,v,γ',T',S',rfl,⟨hr'.st.keep,hr'.st.lt,hr'.st.nlt,hr'.st.set,hr'.st.mon,fun k ob hk=>?_,fun k k' o o' hk hk'=>hr'.st.dis k k' o o' (hlk k o hk) (hlk k' o' hk')⟩,?_⟩
    · have h1:=hr'.st.obj k ob (hlk k ob hk)
      refine h1.cx2 (fun b hb=>h1.free hb) fun hpy b hb=>?_
      have hb':pinM σ0 γ k=some b:=hb
      obtain ⟨_,ob0,hl0,hp0⟩:=zcD hb'
      have hkey:fn.ntmps≤k:=Nat.le_of_ble_eq_true (List.all_eq_true.1 hk0 _ (zaD hl0))
      have hpin:(ctx P Ty fn.ntmps ⟨w,N,pinM σ0 γ,[]⟩ S).pin k=some b:=by
        show (if k < fn.ntmps then none else pinM σ0 γ k)=some b
        rw [if_neg (by omega)];exact hb'
      exact zdB hpy h1 b hpin
    · rcases hx2 with rfl|rfl
      · exact g2
      · exact zgp g2
  cases ex with
  | normal=>obtain ⟨v,g1,g2⟩:=hfin hq;exact ⟨hr'.df,v,g1,g2⟩
  | ret=>obtain ⟨v,g1,g2⟩:=hfin hq;exact ⟨hr'.df,v,g1,g2⟩
  | exit id=>exact hq.elim
  | goto l=>exact hq.elim
  | panic ch=>exact hq.elim
  | outgrown=>exact hq.elim
end
section
variable {X:Ctx} {fr:Fr} {σ σ0:Obs} {o:Oper} {ops:Array Oper} {rest:List Oper} {Q:Fr→Obs→Prop}
theorem zny (L:List Nat) {α:Type} {g:α→VV} {τ:α→Obs} {p:α→Prop} {f:FuncId} {x:Operand} {xs:Array Operand} {ats:Array TypeId} {args cs:List VV} (hw:wantA ops o fr=some true) (hd:inF X.nt o.dst=true) (ho:o.op=.call { callee:=.value x,args:=xs,argTypes:=ats }) (hx:calleeG fr x=some (f,cs))
    (ha:argsG fr xs.toList=some args) (hc:CallsN X.P f (args++cs) σ0 (fun y σ1=>∃ i,y=g i∧σ1=τ i∧p i)) (hσ:∀ p∈σ0,look σ p.1=some p.2) (hok:∀ i,okM σ0 (τ i) L=true) (hy:∀ i,refsV (keyIn (τ i)) L.contains (g i)=true) (hfr:∀ i, ∀ k∈freshM (τ i) L,X.pin k=none)
    (h:∀ i,p i→RL X ops rest (putF (stripsF L fr) o.dst (g i)) (τ i++stripsS L σ) Q):RL X ops (o :: rest) fr σ Q :=
  ⟨fun γ T S w a K hr hk=>wpList_step fun K' hK=>by
    obtain ⟨us,hu1,hu2⟩:=zbR hr hx
    rw [if_pos (zam hr hw)]
    unfold Oper.wp
    rw [zbN ho hu1,hc.ent]
    refine (hc.out _ γ T S w _ (hr.toM hσ) ((zbU hr ha).app hu2)).mono fun ex w' he=>?_
    obtain ⟨_,_,⟨i,rfl,rfl,hp⟩,v,γ',T',S',rfl,hst,hv⟩:=he
    obtain ⟨γ2,T2,hr2,hG,hT⟩:=hr.backM L hσ hst (hok i) (hfr i)
    exact hK _ _ ((h i hp).out γ2 T2 S' w' _ K (hr2.put hd (hv.refs hG hT (hy i))) hk)⟩
end
section
variable {w0:W0} {S0:Nat→Nat→Prop} {nt:Nat} {fr:Fr} {σ σ1 τ0:Obs} {o:Oper} {ops:Array Oper} {rest:List Oper} {Q:Fr→Obs→Prop} {xx:Operand}
theorem uNx {α:Type} {g:α→VV} {τ:α→Obs} {p:α→Prop} {f:FuncId} {xs:Array Operand} {ats:Array TypeId} {args cs all:List VV} {L:List Nat} {fr2:α→Fr} {σ2:α→Obs} (hc:CallsN Tryz.prog f all τ0 (fun y σ1=>∃ i,y=g i∧σ1=τ i∧p i)) (h:∀ i,p i→RL (cx nt w0 S0) ops rest (fr2 i) (σ2 i) Q) (ho:o.op=.call { callee:=.value xx,args:=xs,argTypes:=ats }:=by rfl) (hx:calleeG fr xx=some (f,cs):=by rfl) (hw:wantA ops o fr=some true:=by rfl) (hd:inF nt o.dst=true:=by rfl)
    (ha:argsG fr xs.toList=some args:=by rfl) (hall:args++cs=all:=by rfl) (hσ:gHas σ τ0:=by (repeat (first|exact zcO _|refine zcC (by rfl) ?_))) (_hL:∀ i,autoL τ0 (τ i)=L:=by intro i;first|((try simp only [autoL,keyIn,pinny,zap,zeg,List.filter_cons,List.filter_nil,Nat.reduceEqDiff,if_true,if_false,reduceIte,Bool.not_true,Bool.not_false,Bool.and_true,Bool.true_and,Bool.and_self,Bool.and_false,Bool.false_and,Option.isSome_some,Option.isSome_none,List.map_cons,List.map_nil,List.nil_append,List.cons_append,List.append_nil,Bool.false_eq_true])<;>rfl)|rfl) (hok:∀ i,okM τ0 (τ i) L=true:=by intro i;rfl) (hy:∀ i,refsV (keyIn (τ i)) L.contains (g i)=true:=by intro i;rfl) (hfr:∀ i, ∀ k∈freshM (τ i) L,(cx nt w0 S0).pin k=none:=by intro i;exact zis rfl) (hf:∀ i,putF (stripsF L fr) o.dst (g i)=fr2 i:=by intro i;first|((try simp only [zbF,zbT,zbG,zbV,zbv,zbL,za2,za9,zaN,zba,stripV,plainV,List.all_cons,List.all_nil,Bool.and_self,stripC,stripO,stripA,zaW,zaS,zbx,za8,Nat.reduceEqDiff,if_false,if_true,reduceIte,List.contains_nil,List.contains_cons,Nat.reduceBEq,Bool.or_false,Bool.false_eq_true,Bool.or_true])<;>rfl)|rfl) (hs:stripsS L σ=σ1:=by first|((try simp only [zbF,zbT,zbG,zbV,zbv,zbL,za2,za9,zaN,zba,stripV,plainV,List.all_cons,List.all_nil,Bool.and_self,stripC,stripO,stripA,zaW,zaS,zbx,za8,Nat.reduceEqDiff,if_false,if_true,reduceIte,List.contains_nil,List.contains_cons,Nat.reduceBEq,Bool.or_false,Bool.false_eq_true,Bool.or_true])<;>rfl)|rfl) (hg:∀ i,τ i++σ1=σ2 i:=by intro i;first|((try simp only [List.cons_append,List.nil_append])<;>rfl)|rfl):RL (cx nt w0 S0) ops (o :: rest) fr σ Q :=
  zny (X:=cx nt w0 S0) L hw hd ho hx ha (by rw [hall];exact hc) hσ.all hok hy hfr fun i hp=>by rw [hf,hs,hg];exact h i hp
theorem zkw {X:Ctx} {fr:Fr} {σ σ1:Obs} {rs:List ResultVar} {x y:VV} {R:VV→Obs→Prop} (h1:retVM X fr σ rs=some y) (h2:y=x) (h3:gHas σ σ1) (hR:R x σ1):EndN X rs R .ret fr σ:=⟨x,σ1,hR,⟨y,h1,.inl h2⟩,h3.all⟩
theorem zlh {X:Ctx} {fr:Fr} {σ σ1:Obs} {rs:List ResultVar} {x y:VV} {R:VV→Obs→Prop} (h1:retVM X fr σ rs=some y) (h2:outG y=x) (h3:gHas σ σ1) (hR:R x σ1):EndN X rs R .ret fr σ:=⟨x,σ1,hR,⟨y,h1,.inr h2⟩,h3.all⟩
end
section
variable {X:Ctx} {fr:Fr} {σ:Obs} {Q:Exit→Fr→Obs→Prop}
end
end Go.Proofs.YtiplihojmfbjkaaGreat
namespace Go.Proofs.YtiplihojmfbjkaaGreat
open Go.RowKit
section
variable {X:Ctx} {γ:Nat→Nat} {T:Nat→Value} {S:Nat→Nat→Prop} {w:World} {fr:Fr} {σ:Obs} {a:Act} {o:Oper} {ops:Array Oper} {rest:List Oper} {Q:Fr→Obs→Prop}
theorem RCL.raws {l:List Value} (h:l.all (·.oneCell')=true):RCL γ T S w (l.map fun v=>C.d (.v v)) l :=
  ⟨by simp,fun j c hc=>by
    rw [List.getElem?_map,Option.map_eq_some_iff] at hc
    obtain ⟨v,hv,rfl⟩:=hc
    have h1:=List.all_eq_true.1 h v (List.mem_of_getElem? hv)
    exact ⟨v,hv,RD.v v h1,h1⟩⟩
theorem zo1 (hT:Good X) {d:Nat} {t:TypeId} {ps:Array (Nat × Operand)} {i:TyI} {ds:List C} (hw:wantA ops o fr=some true) (hdst:o.dst=some d) (hd:Nat.blt d X.nt=true) (ho:o.op=.build t ps) (hi:X.Ty t=some i) (htag:i.tag=1) (hl:layC i.places fr ps.toList (i.zero.map fun v=>.d (.v v))=some ds)
    (h:RL X ops rest ((d,.ag ds) :: fr) σ Q):RL X ops (o :: rest) fr σ Q :=
  ⟨fun γ T S w a K hr hk=>wpList_step fun K' hK=>by
    rw [if_pos (zam hr hw)]
    have hok:=hT t i hi
    obtain ⟨inf,dd,h1,h2,h3,h4,h5,h6,h7,h8,h9,h10⟩:=hok.get
    rw [htag] at h10
    cases dd with
    | struct fs =>
      simp only [aggOf] at h6
      rw [if_pos h6.symm] at h5
      obtain ⟨cells',g1,g2⟩:=zej hr ps.toList (i.zero.map fun v=>.d (.v v)) i.zero.toArray (RCL.raws hok.z1) hl
      have hb:X.P.built t (ps.map fun p=>(p.1,a.eval p.2)).toList=some cells':=by
        unfold Program.built
        simp only [h1,h2,h5]
        rw [show fs.toList.mapM (fun f=>(X.P.info? f.type).map fun i=>(f.offset,i.size))=some i.places from h8]
        simpa [Value.cells] using g1
      have hex:(execOp a.eval o).run X.P w=.ok (.value (.agg cells')) w:=by
        simp only [execOp,ho,Sem.run_bind,run_build w t _ _ hb,Result.andThen_ok,Sem.run_pure]
      unfold Oper.wp
      rw [hex]
      refine hK _ _ (h.out γ T S w _ K ?_ hk)
      rw [hdst]
      exact hr.put (dst:=some d) hd (by simpa using RV.ag (γ:=γ) (T:=T) ds cells'.toList g2.1 fun j c hc=>let ⟨u,q1,q2,_⟩:=g2.2 j c hc;⟨u,q1,q2⟩)
    | _=>simp [tagOf] at h10⟩
theorem zoR (hT:Good X) {d:Nat} {t:TypeId} {i:TyI} (hw:wantA ops o fr=some true) (hdst:o.dst=some d) (hd:Nat.blt d X.nt=true) (ho:o.op=.alloc t) (hi:X.Ty t=some i) (ha:i.agg=true)
    (h:RL X ops rest ((d,.one (.po d 0)) :: stripF d fr) ((d,.obj t (i.zero.map fun v=>C.d (.v v))) :: stripS d σ) Q):RL X ops (o :: rest) fr σ Q :=
  ⟨fun γ T S w a K hr hk=>wpList_step fun K' hK=>by
    rw [if_pos (zam hr hw)]
    have hok:=hT t i hi
    obtain ⟨inf,dd,h1,h2,h3,h4,h5,h6,_⟩:=hok.get
    rw [if_pos ha] at h5
    have hex:(execOp a.eval o).run X.P w=.ok (.value (.pointer (some ⟨w.heap.size,0,none⟩))) (w.alloc (.cells i.zero.toArray t)):=by
      simp only [execOp,ho,Instr.alloc,Sem.run_bind,zes h1 h5,Result.andThen_ok,zbO,Sem.run_pure,Value.cells]
    unfold Oper.wp
    rw [hex]
    have h7:=hr.alloc d i.zero t (.obj t (i.zero.map fun v=>C.d (.v v))) (fun γ' _ hg=>⟨i.zero,by rw [hg];exact heap_alloc_new w _,RCL.raws hok.z1,by rw [hg];exact (za6 hr _ (Nat.le_refl _)).1,by rw [hg];exact (za6 hr _ (Nat.le_refl _)).2,fun b hb=>by rw [X.low d (Nat.blt_eq ▸ hd)] at hb;cases hb⟩) (fun _ _ hb=>hb)
    refine hK _ _ (h.out (setK γ d w.heap.size) T S _ _ K ?_ hk)
    rw [hdst]
    exact h7.put (dst:=some d) hd (.one (by simp only [RC,zaq]))⟩
theorem Rel.nil_cell {k key j:Nat} {ty e:TypeId} {sz:Nat} {cs:List C} {y:Value} (hne:k≠key) (hr:Rel X γ T S w fr σ a) (hk:look σ k=some (.obj ty cs)) (hj:cs[j]?=some (.d (.v y))) (hy:isNil y=true) :
    Rel X γ (setK T key (.slice none 0 0)) S w (stripF key fr) ((k,.obj ty ((stripL key cs).set j (.own key []))) :: (key,.tok e sz) :: stripS key σ) a:=by
  have h1:=hr.nil_ key e sz
  have hlk:look ((key,Ob.tok e sz) :: stripS key σ) k=some (.obj ty (stripL key cs)):=by
    rw [zap,if_neg (Ne.symm hne),zar,hk,Option.map_some,if_neg hne];rfl
  obtain ⟨us,q1,⟨q2,q3⟩,q4⟩:=h1.st.obj k _ hlk
  have hjs:(stripL key cs)[j]?=some (.d (.v y)):=by
    unfold stripL
    rw [List.getElem?_map,hj];rfl
  obtain ⟨⟨keep,lt,nlt,set,mon,obj,dis⟩,hfr,hn,hd⟩:=h1
  have hro:RO X γ (setK T key (.slice none 0 0)) S w k (.obj ty ((stripL key cs).set j (.own key []))):=by
    refine ⟨us,q1,⟨by rw [List.length_set];exact q2,fun i c hc=>?_⟩,q4⟩
    by_cases e:j=i
    · subst e
      rw [List.getElem?_set_self (List.getElem?_eq_some_iff.1 hjs).1] at hc
      injection hc with hc;subst hc
      obtain ⟨u,g1,g2,g3⟩:=q3 j _ hjs
      have hu:=zaw (γ:=γ) (T:=T) (RV.one (c:=.d (.v y)) g2)
      rw [zb5 hy] at hu;subst hu
      exact ⟨_,g1,⟨RD.nil_,zaq _ _ _⟩,g3⟩
    · rw [List.getElem?_set_ne e] at hc
      exact q3 i c hc
  refine ⟨⟨keep,lt,nlt,set,mon,fun i o hi=>?_,fun i i' o o' hi hi' hne b hb=>?_⟩,hfr,hn,hd⟩
  · rw [zap] at hi
    split at hi
    · rename_i e;injection hi with hi;subst hi;subst e;exact hro
    · exact obj i o hi
  · rw [zap] at hi hi'
    split at hi<;>split at hi'
    · rename_i e1 e2;exact (hne (e1.symm.trans e2)).elim
    · rename_i e1 e2;injection hi with hi;subst hi;subst e1;exact dis _ i' _ o' hlk hi' hne b hb
    · rename_i e1 e2;injection hi' with hi';subst hi';subst e2;exact fun hb'=>dis i _ o _ hi hlk hne b hb hb'
    · exact dis i i' o o' hi hi' hne b hb
theorem zof (k key j:Nat) {ty e:TypeId} {sz:Nat} {cs:List C} {y:Value} (hne:k≠key) (hk:look σ k=some (.obj ty cs)) (hj:cs[j]?=some (.d (.v y))) (hy:isNil y=true) {l:List Oper}
    (h:RL X ops l (stripF key fr) ((k,.obj ty ((stripL key cs).set j (.own key []))) :: (key,.tok e sz) :: stripS key σ) Q):RL X ops l fr σ Q :=
  ⟨fun γ _ S w a K hr hkk=>h.out γ _ S w a K (hr.nil_cell hne hk hj hy) hkk⟩
theorem zjA {x:Operand} {k off:Nat} (ho:o.op=.nilCheck x) (hr:Rel X γ T S w fr σ a) (hx:ev fr x=some (.one (.po k off))):(execOp a.eval o).run X.P w=.ok (.value (.pointer (some ⟨γ k,off,none⟩))) w:=by
  have hv:=zae hr hx
  cases hv with
  | one hv =>
    have e:a.eval x=.pointer (some ⟨γ k,off,none⟩):=hv
    simp only [execOp,ho,e,Sem.run_pure]
theorem zpZ {x:Operand} {k off d:Nat} (hw:wantA ops o fr=some true) (hdst:o.dst=some d) (hd:Nat.blt d X.nt=true) (ho:o.op=.nilCheck x) (hx:ev fr x=some (.one (.po k off))) (h:RL X ops rest ((d,.one (.po k off)) :: fr) σ Q):RL X ops (o :: rest) fr σ Q :=
  ⟨fun γ T S w a K hr hk=>wpList_step fun K' hK=>by
    rw [if_pos (zam hr hw)]
    unfold Oper.wp
    rw [zjA ho hr hx]
    refine hK _ _ (h.out γ T S w _ K ?_ hk)
    rw [hdst]
    exact hr.put (dst:=some d) hd (.one rfl)⟩
variable {τ0 σB:Obs} {K:List Cr} {C0:Cons} {QD:Fr→Obs→Prop} {i0:Nat}
theorem D_nc {x:Operand} {k off d:Nat} (hdst:o.dst=some d) (hd:Nat.blt d X.nt=true) (hw:wantA ops o (restr ops o fr)=some true) (ho:o.op=.nilCheck x) (hx:ev (restr ops o fr) x=some (.one (.po k off))) (hm:MenOk o K (.one (.po k off)))
    (h:DSeq X ops τ0 σB QD (i0+1) K C0 rest ((d,.one (.po k off)) :: fr)):DSeq X ops τ0 σB QD i0 K C0 (o :: rest) fr :=
  zbS hdst hd hm (.inr ⟨hw,fun _ _ S w _ hr=>.inl ⟨_,w,zjA ho hr hx,S,za3 S w,.one rfl⟩⟩) h
end
section
variable {w0:W0} {S0:Nat→Nat→Prop} {nt:Nat} {fr fr1:Fr} {σ σ1 σ2 τ0 τ1 σB:Obs} {o:Oper} {ops:Array Oper} {rest:List Oper} {Q:Fr→Obs→Prop} {d k:Nat} {xx:Operand} {QQ:Exit→Fr→Obs→Prop} {QD:Fr→Obs→Prop} {K:List Cr} {C0:Cons} {j0:Nat}
theorem uBdZ {t:TypeId} {ps:Array (Nat × Operand)} {i:TyI} {ds cs:List C} (h:RL (cx nt w0 S0) ops rest ((d,.ag cs) :: fr) σ Q) (ho:o.op=.build t ps:=by rfl) (hw:wantA ops o fr=some true:=by rfl) (hdst:o.dst=some d:=by rfl) (hd:Nat.blt d nt=true:=by rfl) (hi:Ty t=some i:=by rfl) (ht:i.tag=1:=by rfl)
    (hl:layC i.places fr ps.toList (i.zero.map fun v=>.d (.v v))=some ds:=by first|exact zaX _ _ _|exact (zak (by rfl) (by rfl) lenA leA (zaX _ _ _))|exact (zak (by rfl) (by rfl) lenA leA (zak (by rfl) (by rfl) lenA leA (zaX _ _ _)))|exact (zak (by rfl) (by rfl) lenA leA (zak (by rfl) (by rfl) lenA leA (zak (by rfl) (by rfl) lenA leA (zaX _ _ _))))|exact (zak (by rfl) (by rfl) lenA leA (zak (by rfl) (by rfl) lenA leA (zak (by rfl) (by rfl) lenA leA (zak (by rfl) (by rfl) lenA leA (zaX _ _ _)))))|exact (zak (by rfl) (by rfl) lenA leA (zak (by rfl) (by rfl) lenA leA (zak (by rfl) (by rfl) lenA leA (zak (by rfl) (by rfl) lenA leA (zak (by rfl) (by rfl) lenA leA (zaX _ _ _))))))|exact (zak (by rfl) (by rfl) lenA leA (zak (by rfl) (by rfl) lenA leA (zak (by rfl) (by rfl) lenA leA (zak (by rfl) (by rfl) lenA leA (zak (by rfl) (by rfl) lenA leA (zak (by rfl) (by rfl) lenA leA (zaX _ _ _)))))))|exact (zak (by rfl) (by rfl) lenA leA (zak (by rfl) (by rfl) lenA leA (zak (by rfl) (by rfl) lenA leA (zak (by rfl) (by rfl) lenA leA (zak (by rfl) (by rfl) lenA leA (zak (by rfl) (by rfl) lenA leA (zak (by rfl) (by rfl) lenA leA (zaX _ _ _))))))))) (hs:ds=cs:=by first|((try simp only [spliceC,List.map_cons,List.map_nil,List.set_cons_zero,List.set_cons_succ])<;>rfl)|rfl):RL (cx nt w0 S0) ops (o :: rest) fr σ Q :=
  zo1 (X:=cx nt w0 S0) zad hw hdst hd ho hi ht hl (hs ▸ h)
theorem uAlO {t:TypeId} {i:TyI} {cs:List C} (h:RL (cx nt w0 S0) ops rest ((d,.one (.po d 0)) :: fr1) ((d,.obj t cs) :: σ1) Q) (ho:o.op=.alloc t:=by rfl) (hw:wantA ops o fr=some true:=by rfl) (hdst:o.dst=some d:=by rfl) (hd:Nat.blt d nt=true:=by rfl) (hi:Ty t=some i:=by rfl) (ha:i.agg=true:=by rfl)
    (hz:(i.zero.map fun v=>C.d (.v v))=cs:=by rfl) (hf:stripF d fr=fr1:=by exact strxA) (hs:stripS d σ=σ1:=by exact strxA):RL (cx nt w0 S0) ops (o :: rest) fr σ Q :=
  zoR (X:=cx nt w0 S0) zad hw hdst hd ho hi ha (hz ▸ hf ▸ hs ▸ h)
theorem uNilO (k key j:Nat) (e:TypeId) (sz:Nat) {ty:TypeId} {cs cs':List C} {y:Value} {l:List Oper} (h:RL (cx nt w0 S0) ops l fr1 ((k,.obj ty cs') :: (key,.tok e sz) :: σ1) Q) (hk:look σ k=some (.obj ty cs):=by rfl) (hj:cs[j]?=some (.d (.v y)):=by rfl) (hy:isNil y=true:=by rfl) (hne:Nat.beq k key=false:=by rfl)
    (hf:stripF key fr=fr1:=by exact strxA) (hs:stripS key σ=σ1:=by exact strxA) (hc:(stripL key cs).set j (.own key [])=cs':=by first|((try simp only [zaS,zaW,stripA,stripC,Nat.reduceEqDiff,if_false,if_true,reduceIte,List.set_cons_zero,List.set_cons_succ])<;>rfl)|rfl):RL (cx nt w0 S0) ops l fr σ Q :=
  zof (X:=cx nt w0 S0) k key j (fun e=>by subst e;rw [Nat.beq_refl] at hne;cases hne) hk hj hy (hf ▸ hs ▸ hc ▸ h)
theorem uNp {x:Operand} {off:Nat} (h:RL (cx nt w0 S0) ops rest ((d,.one (.po k off)) :: fr) σ Q) (ho:o.op=.nilCheck x:=by rfl) (hw:wantA ops o fr=some true:=by rfl) (hdst:o.dst=some d:=by rfl) (hd:Nat.blt d nt=true:=by rfl) (hx:ev fr x=some (.one (.po k off)):=by rfl):RL (cx nt w0 S0) ops (o :: rest) fr σ Q :=
  zpZ (X:=cx nt w0 S0) hw hdst hd ho hx h
theorem mNp {x:Operand} {off:Nat} (h:DSeq (cx nt w0 S0) ops τ0 σB QD (j0+1) K C0 rest ((d,.one (.po k off)) :: fr)) (ho:o.op=.nilCheck x:=by rfl) (hdst:o.dst=some d:=by rfl) (hd:Nat.blt d nt=true:=by rfl) (hw:wantA ops o (restr ops o fr)=some true:=by rfl) (hx:ev (restr ops o fr) x=some (.one (.po k off)):=by rfl) (hm:MenOk o K (.one (.po k off)):=by (repeat (first|exact zax _ _|refine zau (by first|exact Or.inl rfl|exact Or.inr rfl) ?_))):DSeq (cx nt w0 S0) ops τ0 σB QD j0 K C0 (o :: rest) fr :=
  D_nc (X:=cx nt w0 S0) hdst hd hw ho hx hm h
end
end Go.Proofs.YtiplihojmfbjkaaGreat
