/- A contract that writes nothing of its caller's is a plain one. -/
import Derived.Test.YtiplihojmfbjkaaGreatMA
import Derived.Test.YtiplihojmfbjkaaGreatWI
namespace Go.Proofs.YtiplihojmfbjkaaGreat
open Go.RowKit
theorem CallsM.toV {P:Program} {f:FuncId} {args:List VV} {cs:List D} (h:CallsM P f args [] (.dat cs) []):CallsV P f args (.val (.dat cs)) :=
  ⟨h.ent,fun S w vs ha hlt=>by
    have hst:St (ictx P w (fun b=>b < w.heap.size) S (pinM [] (fun _=>0))) (fun _=>0) (fun _=>undef) S w [] :=
      ⟨.refl _ _,hlt,fun _ hb=>hb,fun _ _ hs=>.inl hs,⟨fun _ _ hs=>hs,.refl⟩,fun k o hk=>(by cases hk),fun k k' o o' hk=>(by cases hk)⟩
    refine (h.out _ _ _ S w vs hst ⟨ha.1,fun j y v hy hv=>ha.2 j y v hy hv _ _⟩).mono fun ex w' he=>?_
    obtain ⟨v,γ',T',S',rfl,hs',hv⟩:=he
    refine ⟨v,S',rfl,⟨hs'.keep.os,hs'.keep.tape,hs'.keep.output,hs'.keep.size,fun k hk=>hs'.keep.block k hk hk⟩,hs'.mon.1,fun b o hb=>?_,fun γ T=>?_⟩
    · rcases hs'.set b o hb with h1|h1
      · exact .inl h1
      · have h1:¬ b < w.heap.size:=h1
        exact .inr ⟨by omega,hs'.lt b o hb⟩
    · cases hv with|dat hv=>exact .dat hv⟩
end Go.Proofs.YtiplihojmfbjkaaGreat
namespace Go.Proofs.YtiplihojmfbjkaaGreat
open Go.RowKit
def autoL (σ0 σ1:Obs):List Nat :=
  ((σ1.filter fun p=>!(pinny p.2&&match look σ0 p.1 with|some ob=>pinny ob|none=>false)).map (·.1))++((σ0.filter fun p=>!keyIn σ1 p.1).map (·.1))
section
variable {X:Ctx} {γ:Nat→Nat} {T:Nat→Value} {S:Nat→Nat→Prop} {w:World} {fr:Fr} {σ:Obs} {a:Act} {ops:Array Oper} {rest:List Oper} {Q:Fr→Obs→Prop}
theorem Rel.box_obj {k:Nat} {ty:TypeId} {cs:List D} (hr:Rel X γ T S w fr σ a) (hk:look σ k=some (.box ty cs)) (hp:X.pin k=none):Rel X γ T S w fr ((k,.obj ty (cs.map .d)) :: σ) a:=by
  obtain ⟨us,h1,h2,h3,h4⟩:=hr.st.obj k _ hk
  obtain ⟨⟨keep,lt,nlt,set,mon,obj,dis⟩,hfr,hn,hd⟩:=hr
  have hro:RO X γ T S w k (.obj ty (cs.map .d)):=⟨us,h1,RCL.of_RDL h2,h3,h4,fun b hb=>by rw [hp] at hb;cases hb⟩
  refine ⟨⟨keep,lt,nlt,set,mon,fun j o hj=>?_,fun i j o o' hi hj hne b hb=>?_⟩,hfr,hn,hd⟩
  · simp only [look] at hj
    split at hj
    · rename_i e;injection hj with hj;subst hj;subst e;exact hro
    · exact obj j o hj
  · simp only [look] at hi hj
    split at hi<;>split at hj
    · rename_i e1 e2;exact (hne (e1.symm.trans e2)).elim
    · rename_i e1 e2;injection hi with hi;subst hi;subst e1;exact dis _ j _ o' hk hj hne b hb
    · rename_i e1 e2;injection hj with hj;subst hj;subst e2;exact fun hb'=>dis i _ o _ hi hk hne b hb hb'
    · exact dis i j o o' hi hj hne b hb
def layC (places:List (Nat × Nat)) (fr:Fr):List (Nat × Operand)→List C→Option (List C)
  | [],cs=>some cs
  | (f,x) :: ps,cs=>match places[f]?,(ev fr x).bind cellsC with
    | some (o,s),some ds=>if ds.length=s∧o+s≤cs.length then layC places fr ps (spliceC cs o ds) else none
    | _,_=>none
theorem zej (hr:Rel X γ T S w fr σ a) {places:List (Nat × Nat)}:∀ (ps:List (Nat × Operand)) (cs:List C) (cells:Array Value) {ds:List C},RCL γ T S w cs cells.toList→layC places fr ps cs=some ds→
    ∃ cells',Instr.fill (places.toArray[·]?) cells (ps.map fun p=>(p.1,a.eval p.2))=some cells'∧RCL γ T S w ds cells'.toList
  | [],cs,cells,ds,h,hl=>by simp only [layC,Option.some.injEq] at hl;subst hl;exact ⟨cells,rfl,h⟩
  | (f,x) :: ps,cs,cells,ds,h,hl=>by
    simp only [layC] at hl
    split at hl
    · rename_i off s es hp he
      split at hl
      · rename_i hc
        obtain ⟨xv,hx1,hx2⟩:=Option.bind_eq_some_iff.1 he
        have hv:=ze6 hx2 (zae hr hx1)
        have hsz:(a.eval x).cells.size=s:=by rw [← hc.1,← hv.1];simp
        have hle:off+s≤cells.size:=by have:=h.1;simp at this;omega
        obtain ⟨cells',h1,h2⟩:=zhC (places.toArray[·]?) cells f off s (a.eval x) (ps.map fun p=>(p.1,a.eval p.2)) (by simpa using hp) hsz hle
        obtain ⟨cells2,h3,h4⟩:=zej hr ps _ cells' (by rw [h2];exact zgA h hv (by omega)) hl
        exact ⟨cells2,by rw [List.map_cons,h1,h3],h4⟩
      · cases hl
    · cases hl
theorem zpq (hT:Good X) {o:Oper} {d:Nat} {t:TypeId} {ps:Array (Nat × Operand)} {i:TyI} {ds:List C} (hw:wantA ops o fr=some true) (hdst:o.dst=some d) (hd:Nat.blt d X.nt=true) (ho:o.op=.build t ps) (hi:X.Ty t=some i) (htag:i.tag=1) (hl:layC i.places fr ps.toList (i.zero.map fun v=>.d (zc v))=some ds)
    (h:RL X ops rest ((d,.ag ds) :: fr) σ Q):RL X ops (o :: rest) fr σ Q :=
  ⟨fun γ T S w a K hr hk=>wpList_step fun K' hK=>by
    rw [if_pos (zam hr hw)]
    have hok:=hT t i hi
    obtain ⟨inf,dd,h1,h2,h3,h4,h5,h6,h7,h8,h9,h10⟩:=hok.get
    rw [htag] at h10
    cases dd with
    | struct fs =>
      simp only [aggOf] at h6
      rw [if_pos h6.symm] at h5
      have hz:RCL γ T S w (i.zero.map fun v=>.d (zc v)) i.zero:=by
        have:=RCL.of_RDL (γ:=γ) (T:=T) (RDL.zcs (S:=S) (w:=w) hok.z1)
        rwa [List.map_map] at this
      obtain ⟨cells',g1,g2⟩:=zej hr ps.toList (i.zero.map fun v=>.d (zc v)) i.zero.toArray hz hl
      have hb:X.P.built t (ps.map fun p=>(p.1,a.eval p.2)).toList=some cells':=by
        unfold Program.built
        simp only [h1,h2,h5]
        rw [show fs.toList.mapM (fun f=>(X.P.info? f.type).map fun i=>(f.offset,i.size))=some i.places from h8]
        simpa [Value.cells] using g1
      have hex:(execOp a.eval o).run X.P w=.ok (.value (.agg cells')) w:=by
        simp only [execOp,ho,Sem.run_bind,run_build w t _ _ hb,Result.andThen_ok,Sem.run_pure]
      unfold Oper.wp
      rw [hex]
      refine hK _ _ (h.out γ T S w _ K ?_ hk)
      rw [hdst]
      exact hr.put (dst:=some d) hd (by simpa using RV.ag (γ:=γ) (T:=T) ds cells'.toList g2.1 fun j c hc=>let ⟨u,q1,q2,_⟩:=g2.2 j c hc;⟨u,q1,q2⟩)
    | _=>simp [tagOf] at h10⟩
theorem zkC {fr':Fr} {σ':Obs} (hf:∀ t x,look fr' t=some x→look fr t=some x) (hs:∀ k o,look σ' k=some o→look σ k=some o) {l:List Oper} (h:RL X ops l fr' σ' Q):RL X ops l fr σ Q :=
  ⟨fun γ T S w a K hr hk=>h.out γ T S w a K (hr.sub hf hs) hk⟩
theorem zhW {α:Type} {l:List (Nat × α)} {t:Nat} {x:α} (h:look l t=some x):∀ t' y,look ((t,x) :: l) t'=some y→look l t'=some y:=fun t' y hy=>by
  simp only [look] at hy
  split at hy
  · rename_i e;injection hy with hy;subst hy;subst e;exact h
  · exact hy
end
section
variable {w0:W0} {S0:Nat→Nat→Prop} {nt:Nat} {fr fr1:Fr} {σ σ1 σ2 τ0 τ1:Obs} {o:Oper} {ops:Array Oper} {rest:List Oper} {Q:Fr→Obs→Prop} {d k:Nat} {y:VV} {xx:Operand} {c:Bool} {p:Prop} {cd1 cd2:Code} {QQ:Exit→Fr→Obs→Prop}
theorem uGs {g:Nat} {gb:Bool} {t:Nat} (h1:c=true→RL (cx nt w0 S0) ops (o :: rest) ((t,vB true) :: fr) σ Q) (h2:c=false→RL (cx nt w0 S0) ops (o :: rest) ((t,vB false) :: fr) σ Q) (_hg:o.guard=some (g,gb):=by rfl) (_ht:(ops[g]?).bind (·.dst)=some t:=by rfl) (hl:look fr t=some (vB c):=by rfl):RL (cx nt w0 S0) ops (o :: rest) fr σ Q:=by
  cases c with
  | true=>exact zkC (zhW hl) (fun _ _ h=>h) (h1 rfl)
  | false=>exact zkC (zhW hl) (fun _ _ h=>h) (h2 rfl)
theorem uGsD [Decidable p] {g:Nat} {gb:Bool} {t:Nat} (h1:p→RL (cx nt w0 S0) ops (o :: rest) ((t,vB true) :: fr) σ Q) (h2:¬ p→RL (cx nt w0 S0) ops (o :: rest) ((t,vB false) :: fr) σ Q) (hg:o.guard=some (g,gb):=by rfl) (ht:(ops[g]?).bind (·.dst)=some t:=by rfl) (hl:look fr t=some (vB (decide p)):=by rfl):RL (cx nt w0 S0) ops (o :: rest) fr σ Q :=
  uGs (fun h=>h1 (of_decide_eq_true h)) (fun h=>h2 (of_decide_eq_false h)) hg ht hl
theorem uGsE {m n:Int} {g:Nat} {gb:Bool} {t:Nat} (h1:m=n→RL (cx nt w0 S0) ops (o :: rest) ((t,vB true) :: fr) σ Q) (h2:¬ m=n→RL (cx nt w0 S0) ops (o :: rest) ((t,vB false) :: fr) σ Q) (hg:o.guard=some (g,gb):=by rfl) (ht:(ops[g]?).bind (·.dst)=some t:=by rfl) (hl:look fr t=some (vB (m==n)):=by rfl):RL (cx nt w0 S0) ops (o :: rest) fr σ Q :=
  uGs (fun h=>h1 (by simpa using h)) (fun h=>h2 (by simpa using h)) hg ht hl
theorem uGsN {m n:Int} {g:Nat} {gb:Bool} {t:Nat} (h1:¬ m=n→RL (cx nt w0 S0) ops (o :: rest) ((t,vB true) :: fr) σ Q) (h2:m=n→RL (cx nt w0 S0) ops (o :: rest) ((t,vB false) :: fr) σ Q) (hg:o.guard=some (g,gb):=by rfl) (ht:(ops[g]?).bind (·.dst)=some t:=by rfl) (hl:look fr t=some (vB (m != n)):=by rfl):RL (cx nt w0 S0) ops (o :: rest) fr σ Q :=
  uGs (fun h=>h1 (by simpa using h)) (fun h=>h2 (by simpa using h)) hg ht hl
theorem wCs {x:Operand} (h1:c=true→W (cx nt w0 S0) cd1 fr σ QQ) (h2:c=false→W (cx nt w0 S0) cd2 fr σ QQ) (hl:ev fr x=some (vB c):=by rfl):W (cx nt w0 S0) (.cond x cd1 cd2) fr σ QQ:=zbD c hl h1 h2
theorem wCsD [Decidable p] {x:Operand} (h1:p→W (cx nt w0 S0) cd1 fr σ QQ) (h2:¬ p→W (cx nt w0 S0) cd2 fr σ QQ) (hl:ev fr x=some (vB (decide p)):=by rfl):W (cx nt w0 S0) (.cond x cd1 cd2) fr σ QQ:=zbD (decide p) hl (fun h=>h1 (of_decide_eq_true h)) (fun h=>h2 (of_decide_eq_false h))
theorem wCsE {m n:Int} {x:Operand} (h1:m=n→W (cx nt w0 S0) cd1 fr σ QQ) (h2:¬ m=n→W (cx nt w0 S0) cd2 fr σ QQ) (hl:ev fr x=some (vB (m==n)):=by rfl):W (cx nt w0 S0) (.cond x cd1 cd2) fr σ QQ:=zbD (m==n) hl (fun h=>h1 (by simpa using h)) (fun h=>h2 (by simpa using h))
theorem wCsN {m n:Int} {x:Operand} (h1:¬ m=n→W (cx nt w0 S0) cd1 fr σ QQ) (h2:m=n→W (cx nt w0 S0) cd2 fr σ QQ) (hl:ev fr x=some (vB (m != n)):=by rfl):W (cx nt w0 S0) (.cond x cd1 cd2) fr σ QQ:=zbD (m != n) hl (fun h=>h1 (by simpa using h)) (fun h=>h2 (by simpa using h))
theorem uGsND [Decidable p] {g:Nat} {gb:Bool} {t:Nat} (h1:¬ p→RL (cx nt w0 S0) ops (o :: rest) ((t,vB true) :: fr) σ Q) (h2:p→RL (cx nt w0 S0) ops (o :: rest) ((t,vB false) :: fr) σ Q) (hg:o.guard=some (g,gb):=by rfl) (ht:(ops[g]?).bind (·.dst)=some t:=by rfl) (hl:look fr t=some (vB (!decide p)):=by rfl):RL (cx nt w0 S0) ops (o :: rest) fr σ Q :=
  uGs (fun h=>h1 (by simpa using h)) (fun h=>h2 (by simpa using h)) hg ht hl
theorem uGsNE {m n:Int} {g:Nat} {gb:Bool} {t:Nat} (h1:¬ m=n→RL (cx nt w0 S0) ops (o :: rest) ((t,vB true) :: fr) σ Q) (h2:m=n→RL (cx nt w0 S0) ops (o :: rest) ((t,vB false) :: fr) σ Q) (hg:o.guard=some (g,gb):=by rfl) (ht:(ops[g]?).bind (·.dst)=some t:=by rfl) (hl:look fr t=some (vB (!(m==n))):=by rfl):RL (cx nt w0 S0) ops (o :: rest) fr σ Q :=
  uGs (fun h=>h1 (by simpa using h)) (fun h=>h2 (by simpa using h)) hg ht hl
theorem uGsNB {b:Bool} {g:Nat} {gb:Bool} {t:Nat} (h1:b=false→RL (cx nt w0 S0) ops (o :: rest) ((t,vB true) :: fr) σ Q) (h2:b=true→RL (cx nt w0 S0) ops (o :: rest) ((t,vB false) :: fr) σ Q) (hg:o.guard=some (g,gb):=by rfl) (ht:(ops[g]?).bind (·.dst)=some t:=by rfl) (hl:look fr t=some (vB (!b)):=by rfl):RL (cx nt w0 S0) ops (o :: rest) fr σ Q :=
  uGs (fun h=>h1 (by simpa using h)) (fun h=>h2 (by simpa using h)) hg ht hl
theorem wCsND [Decidable p] {x:Operand} (h1:¬ p→W (cx nt w0 S0) cd1 fr σ QQ) (h2:p→W (cx nt w0 S0) cd2 fr σ QQ) (hl:ev fr x=some (vB (!decide p)):=by rfl):W (cx nt w0 S0) (.cond x cd1 cd2) fr σ QQ:=zbD (!decide p) hl (fun h=>h1 (by simpa using h)) (fun h=>h2 (by simpa using h))
theorem wCsNE {m n:Int} {x:Operand} (h1:¬ m=n→W (cx nt w0 S0) cd1 fr σ QQ) (h2:m=n→W (cx nt w0 S0) cd2 fr σ QQ) (hl:ev fr x=some (vB (!(m==n))):=by rfl):W (cx nt w0 S0) (.cond x cd1 cd2) fr σ QQ:=zbD (!(m==n)) hl (fun h=>h1 (by simpa using h)) (fun h=>h2 (by simpa using h))
theorem wCsNB {b:Bool} {x:Operand} (h1:b=false→W (cx nt w0 S0) cd1 fr σ QQ) (h2:b=true→W (cx nt w0 S0) cd2 fr σ QQ) (hl:ev fr x=some (vB (!b)):=by rfl):W (cx nt w0 S0) (.cond x cd1 cd2) fr σ QQ:=zbD (!b) hl (fun h=>h1 (by simpa using h)) (fun h=>h2 (by simpa using h))
theorem zis {P:Nat→Prop} {l:List Nat} (h:l=[]):∀ k∈l,P k:=by subst h;exact fun k hk=>by cases hk
theorem uM {f:FuncId} {xs:Array Operand} {ats:Array TypeId} {args cs all:List VV} {L:List Nat} {fr2:Fr} (hc:CallsM Tryz.prog f all τ0 y τ1) (h:RL (cx nt w0 S0) ops rest fr2 σ2 Q) (ho:o.op=.call { callee:=.value xx,args:=xs,argTypes:=ats }:=by rfl) (hx:calleeG fr xx=some (f,cs):=by rfl) (hw:wantA ops o fr=some true:=by rfl) (hd:inF nt o.dst=true:=by rfl)
    (ha:argsG fr xs.toList=some args:=by rfl) (hall:args++cs=all:=by rfl) (hσ:gHas σ τ0:=by (repeat (first|exact zcO _|refine zcC (by rfl) ?_))) (_hL:autoL τ0 τ1=L:=by first|((try simp only [autoL,keyIn,pinny,zap,zeg,List.filter_cons,List.filter_nil,Nat.reduceEqDiff,if_true,if_false,reduceIte,Bool.not_true,Bool.not_false,Bool.and_true,Bool.true_and,Bool.and_self,Bool.and_false,Bool.false_and,Option.isSome_some,Option.isSome_none,List.map_cons,List.map_nil,List.nil_append,List.cons_append,List.append_nil,Bool.false_eq_true])<;>rfl)|rfl) (hok:okM τ0 τ1 L=true:=by rfl) (hy:refsV (keyIn τ1) L.contains y=true:=by rfl) (hfr:∀ k∈freshM τ1 L,(cx nt w0 S0).pin k=none:=by exact zis rfl) (hf:putF (stripsF L fr) o.dst y=fr2:=by first|((try simp only [zbF,zbT,zbG,zbV,zbv,zbL,za2,za9,zaN,zba,stripV,plainV,List.all_cons,List.all_nil,Bool.and_self,stripC,stripO,stripA,zaW,zaS,zbx,za8,Nat.reduceEqDiff,if_false,if_true,reduceIte,List.contains_nil,List.contains_cons,Nat.reduceBEq,Bool.or_false,Bool.false_eq_true,Bool.or_true])<;>rfl)|rfl) (hs:stripsS L σ=σ1:=by first|((try simp only [zbF,zbT,zbG,zbV,zbv,zbL,za2,za9,zaN,zba,stripV,plainV,List.all_cons,List.all_nil,Bool.and_self,stripC,stripO,stripA,zaW,zaS,zbx,za8,Nat.reduceEqDiff,if_false,if_true,reduceIte,List.contains_nil,List.contains_cons,Nat.reduceBEq,Bool.or_false,Bool.false_eq_true,Bool.or_true])<;>rfl)|rfl) (hg:τ1++σ1=σ2:=by first|((try simp only [List.cons_append,List.nil_append])<;>rfl)|rfl):RL (cx nt w0 S0) ops (o :: rest) fr σ Q :=
  znD (X:=cx nt w0 S0) L hw hd ho hx ha (by rw [hall];exact hc) hσ.all hok hy hfr (by rw [hf,hs,hg];exact h)
theorem zbt {X:Ctx} {rs:List ResultVar} {x y:VV} (h1:retVM X fr σ rs=some y) (h2:y=x) (h3:gHas σ τ1):EndM X rs x τ1 .ret fr σ:=⟨⟨y,h1,.inl h2⟩,h3.all⟩
theorem zcZ {X:Ctx} {rs:List ResultVar} {x y:VV} (h1:retVM X fr σ rs=some y) (h2:y=x) (h3:gHas σ τ1):EndM X rs x τ1 .normal fr σ:=⟨⟨y,h1,.inl h2⟩,h3.all⟩
theorem wBO (k:Nat) {ty:TypeId} {cs:List D} {cs':List C} {cd:Code} (hp:(cx nt w0 S0).pin k=none) (h:W (cx nt w0 S0) cd fr ((k,.obj ty cs') :: σ) QQ) (hk:look σ k=some (.box ty cs):=by rfl) (hc:cs.map C.d=cs':=by rfl):W (cx nt w0 S0) cd fr σ QQ :=
  ⟨fun γ T S w a hr=>h.out γ T S w a (hc ▸ hr.box_obj hk hp)⟩
theorem zaX (pl:List (Nat × Nat)) (fr:Fr) (cs:List C):layC pl fr [] cs=some cs:=rfl
theorem zak {pl:List (Nat × Nat)} {f off s:Nat} {xx:Operand} {cs ds r:List C} {ps:List (Nat × Operand)} (h1:pl[f]?=some (off,s)) (h2:(ev fr xx).bind cellsC=some ds) (h3:ds.length=s) (h4:off+s≤cs.length) (h5:layC pl fr ps (spliceC cs off ds)=some r):layC pl fr ((f,xx) :: ps) cs=some r:=by
  simp only [layC,h1,h2];rw [if_pos ⟨h3,h4⟩];exact h5
theorem uBdC {t:TypeId} {ps:Array (Nat × Operand)} {i:TyI} {ds cs:List C} (h:RL (cx nt w0 S0) ops rest ((d,.ag cs) :: fr) σ Q) (ho:o.op=.build t ps:=by rfl) (hw:wantA ops o fr=some true:=by rfl) (hdst:o.dst=some d:=by rfl) (hd:Nat.blt d nt=true:=by rfl) (hi:Ty t=some i:=by rfl) (ht:i.tag=1:=by rfl)
    (hl:layC i.places fr ps.toList (i.zero.map fun v=>.d (zc v))=some ds:=by first|exact zaX _ _ _|exact (zak (by rfl) (by rfl) lenA leA (zaX _ _ _))|exact (zak (by rfl) (by rfl) lenA leA (zak (by rfl) (by rfl) lenA leA (zaX _ _ _)))|exact (zak (by rfl) (by rfl) lenA leA (zak (by rfl) (by rfl) lenA leA (zak (by rfl) (by rfl) lenA leA (zaX _ _ _))))|exact (zak (by rfl) (by rfl) lenA leA (zak (by rfl) (by rfl) lenA leA (zak (by rfl) (by rfl) lenA leA (zak (by rfl) (by rfl) lenA leA (zaX _ _ _)))))|exact (zak (by rfl) (by rfl) lenA leA (zak (by rfl) (by rfl) lenA leA (zak (by rfl) (by rfl) lenA leA (zak (by rfl) (by rfl) lenA leA (zak (by rfl) (by rfl) lenA leA (zaX _ _ _))))))|exact (zak (by rfl) (by rfl) lenA leA (zak (by rfl) (by rfl) lenA leA (zak (by rfl) (by rfl) lenA leA (zak (by rfl) (by rfl) lenA leA (zak (by rfl) (by rfl) lenA leA (zak (by rfl) (by rfl) lenA leA (zaX _ _ _)))))))|exact (zak (by rfl) (by rfl) lenA leA (zak (by rfl) (by rfl) lenA leA (zak (by rfl) (by rfl) lenA leA (zak (by rfl) (by rfl) lenA leA (zak (by rfl) (by rfl) lenA leA (zak (by rfl) (by rfl) lenA leA (zak (by rfl) (by rfl) lenA leA (zaX _ _ _))))))))) (hs:ds=cs:=by first|((try simp only [spliceC,zc,isNil,List.map_cons,List.map_nil,List.set_cons_zero,List.set_cons_succ,Bool.false_eq_true,if_false,if_true,reduceIte,nz,false_and,List.take_succ_cons,List.take_zero,List.drop_succ_cons,List.drop_zero,List.length_cons,List.length_nil,Nat.reduceAdd,List.cons_append,List.nil_append])<;>rfl)|rfl):RL (cx nt w0 S0) ops (o :: rest) fr σ Q :=
  zpq (X:=cx nt w0 S0) zad hw hdst hd ho hi ht hl (hs ▸ h)
theorem zhM {cs ds:List C} (h:ds.length=cs.length):spliceC cs 0 ds=ds:=by
  unfold spliceC
  split
  · rename_i d
    match cs,h with
    | [x],_=>rfl
  · rw [if_pos ⟨rfl,h⟩]
theorem uSo {ty:TypeId} {cs c1:List C} (h:RL (cx nt w0 S0) ops rest fr ((k,.obj ty c1) :: σ) Q) (hw:wantA ops o fr=some true:=by rfl) (hdst:o.dst=none:=by rfl) (hv:aop (cx nt w0 S0) o fr σ=some ⟨.junk,fr,(k,.obj ty cs) :: σ⟩:=by rfl) (hc:cs=c1:=by first|exact zhM (by rfl)|((try simp only [spliceC,List.set_cons_zero,List.set_cons_succ])<;>rfl)|rfl):RL (cx nt w0 S0) ops (o :: rest) fr σ Q :=
  RL_s (X:=cx nt w0 S0) zad hw hdst hv (hc ▸ h)
end
end Go.Proofs.YtiplihojmfbjkaaGreat
namespace Go.Proofs.YtiplihojmfbjkaaGreat
open Go.RowKit
section
variable {fr fr1:Fr} {σ σ1:Obs} {rows:List (List D)}
variable {w0:W0} {S0:Nat→Nat→Prop} {nt:Nat} {ops:Array Oper} {l:List Oper} {Q:Fr→Obs→Prop}
end
end Go.Proofs.YtiplihojmfbjkaaGreat
