/- expr.Eval: a value,or what was thrown is taken. -/
import Derived.Test.YtiplihojmfbjkaaGreatEH
import Derived.Test.YtiplihojmfbjkaaGreatMF
import Derived.Test.YtiplihojmfbjkaaGreatMH
import Derived.Test.YtiplihojmfbjkaaGreatWM
import Derived.Test.YtiplihojmfbjkaaGreatEB
import Derived.Test.YtiplihojmfbjkaaGreatVF
import Derived.Test.YtiplihojmfbjkaaGreatMB
import Derived.Test.YtiplihojmfbjkaaGreatWE
import Derived.Deep.Slices
import Derived.Deep.Fields
import Derived.ChangeSame
import Derived.SliceStrings
import Derived.SizedLaws
import Derived.OpenShut
set_option maxRecDepth 100000
namespace Go.Proofs.YtiplihojmfbjkaaGreat
open Go.RowKit
set_option maxHeartbeats 16000000
theorem zi8 {X:Ctx} {fr:Fr} {σ σ0:Obs} {ops:Array Oper} {o:Oper} {Qp:List PanicEntry→Fr→Obs→Prop} (L:List Nat) {f:FuncId} {x:Operand} {xs:Array Operand} {ats:Array TypeId} {args cs:List VV} {pv:Value} (hw:wantA ops o fr=some true) (ho:o.op=.call { callee:=.value x,args:=xs,argTypes:=ats }) (hx:calleeG fr x=some (f,cs))
    (ha:argsG fr xs.toList=some args) (hc:CallsP X.P f (args++cs) σ0 pv) (hσ:∀ p∈σ0,look σ p.1=some p.2) (hok:okM σ0 [] L=true) (h:Qp (chainP pv) (stripsF L fr) (stripsS L σ)):PStep X ops o fr σ Qp:=by
  intro γ T S w a K QQ hr hq
  refine ⟨zam hr hw,?_⟩
  obtain ⟨us,hu1,hu2⟩:=zbR hr hx
  unfold Oper.wp
  rw [zbN ho hu1,hc.ent]
  refine (hc.out _ γ T S w _ (hr.toM hσ) ((zbU hr ha).app hu2)).mono fun ex w' he=>?_
  obtain ⟨γ',T',S',rfl,hst⟩:=he
  obtain ⟨γ2,T2,hr2,_,_⟩:=hr.backM L hσ hst hok (fun k hk=>by cases hk)
  exact hq _ _ _ _ _ _ _ _ hr2 h
section
variable {nt:Nat} {w0:W0} {S0:Nat→Nat→Prop} {fr fr2:Fr} {σ σ2 τ0:Obs} {ops:Array Oper} {o:Oper} {Qp:List PanicEntry→Fr→Obs→Prop} {xx:Operand}
theorem uPanS {f:FuncId} {xs:Array Operand} {ats:Array TypeId} {args cs all:List VV} {L:List Nat} {pv:Value} (hc:CallsP Tryz.prog f all τ0 pv) (h:Qp (chainP pv) fr2 σ2) (ho:o.op=.call { callee:=.value xx,args:=xs,argTypes:=ats }:=by rfl) (hx:calleeG fr xx=some (f,cs):=by rfl) (hw:wantA ops o fr=some true:=by rfl)
    (ha:argsG fr xs.toList=some args:=by rfl) (hall:args++cs=all:=by rfl) (hσ:gHas σ τ0:=by (repeat (first|exact zcO _|refine zcC (by rfl) ?_))) (_hL:autoL τ0 []=L:=by first|((try simp only [autoL,keyIn,pinny,zap,zeg,List.filter_cons,List.filter_nil,Nat.reduceEqDiff,if_true,if_false,reduceIte,Bool.not_true,Bool.not_false,Bool.and_true,Bool.true_and,Bool.and_self,Bool.and_false,Bool.false_and,Option.isSome_some,Option.isSome_none,List.map_cons,List.map_nil,List.nil_append,List.cons_append,List.append_nil,Bool.false_eq_true])<;>rfl)|rfl) (hok:okM τ0 [] L=true:=by rfl) (hf:stripsF L fr=fr2:=by first|((try simp only [zbF,zbT,zbG,zbV,zbv,zbL,za2,za9,zaN,zba,stripV,plainV,List.all_cons,List.all_nil,Bool.and_self,stripC,stripO,stripA,zaW,zaS,zbx,za8,Nat.reduceEqDiff,if_false,if_true,reduceIte,List.contains_nil,List.contains_cons,Nat.reduceBEq,Bool.or_false,Bool.false_eq_true,Bool.or_true])<;>rfl)|rfl) (hs:stripsS L σ=σ2:=by first|((try simp only [zbF,zbT,zbG,zbV,zbv,zbL,za2,za9,zaN,zba,stripV,plainV,List.all_cons,List.all_nil,Bool.and_self,stripC,stripO,stripA,zaW,zaS,zbx,za8,Nat.reduceEqDiff,if_false,if_true,reduceIte,List.contains_nil,List.contains_cons,Nat.reduceBEq,Bool.or_false,Bool.false_eq_true,Bool.or_true])<;>rfl)|rfl):PStep (cx nt w0 S0) ops o fr σ Qp :=
  zi8 (X:=cx nt w0 S0) L hw ho hx ha (by rw [hall];exact hc) hσ.all hok (by rw [hf,hs];exact h)
end
theorem zix {X:Ctx} {c1 c2:Code} {fr:Fr} {σ:Obs} {Q:Exit→Fr→Obs→Prop} {QQ:Exit→Act→World→Prop} (h1:W X c1 fr σ Q) {γ:Nat→Nat} {T:Nat→Value} {S:Nat→Nat→Prop} {w:World} {a:Act} (hr:Rel X γ T S w fr σ a)
    (hn:∀ γ T S w a fr σ,Rel X γ T S w fr σ a→Q .normal fr σ→c2.wp X.P QQ a w) (hx:∀ e γ T S w a fr σ,e≠.normal→Rel X γ T S w fr σ a→Q e fr σ→QQ e a w):(c1.seq c2).wp X.P QQ a w :=
  wp_seq (Code.wp_mono (fun e a w ⟨γ',T',S',fr',σ',h1,h2⟩=>by
    cases e with
    | normal=>exact hn _ _ _ _ _ _ _ h1 h2
    | exit id=>exact hx _ _ _ _ _ _ _ _ (by simp) h1 h2
    | goto l=>exact hx _ _ _ _ _ _ _ _ (by simp) h1 h2
    | ret=>exact hx _ _ _ _ _ _ _ _ (by simp) h1 h2
    | panic ch=>exact hx _ _ _ _ _ _ _ _ (by simp) h1 h2
    | outgrown=>exact hx _ _ _ _ _ _ _ _ (by simp) h1 h2) (h1.out γ T S w a hr))
def evalR (ps:List Pr) (e:E):Val × Int :=
  if exprRight e=false then (zeroVal,1) else match evalE ps e with
    | none=>(zeroVal,4)
    | some r=>if r.2=true then (zeroVal,7) else (r.1,0)
def rsE:List ResultVar:=[.cell 4 28,.cell 5 39]
abbrev zC:List C:=[.d (.v (.int .i64 0)),.d (.v (.int .i64 0)),.d (.v (.float .f64 0)),.d (.v (.string ⟨#[]⟩))]
def QB (X:Ctx) (ps:List Pr) (e:E):Exit→Fr→Obs→Prop
  | .normal,fr,σ=>exprRight e=true∧Sub [(1,vL (ps.map encPr)),(2,.one (.d (.pi (encE e)))),(4,.one (.po 1002 0)),(5,.one (.po 1003 0))] fr∧Sub [(1002,.obj 28 zC),(1003,.cell 39 (.d (.v (.int .i64 0))))] σ
  | .ret,fr,σ=>exprRight e=false∧ ∃ y,retVM X fr σ rsE=some y∧dataV y=some (.tup [.dat (encV zeroVal),vI 1])
  | _,_,_=>False
def QC (X:Ctx) (v:Val × Int) (t:Bool):Exit→Fr→Obs→Prop
  | .ret,fr,σ=>t=false∧ ∃ y,retVM X fr σ rsE=some y∧dataV y=some (.tup [.dat (encV v.1),vI v.2])
  | .panic ch,fr,σ=>t=true∧ch=chainP pvWrong∧Sub [(4,.one (.po 1002 0)),(5,.one (.po 1003 0))] fr∧Sub [(1002,.obj 28 zC),(1003,.cell 39 (.d (.v (.int .i64 0))))] σ
  | _,_,_=>False
def QA (e:E) (ps:List Pr):Exit→Fr→Obs→Prop
  | .normal,fr,σ=>Sub [(1,vL (ps.map encPr)),(2,.one (.po 2 0)),(4,.one (.po 4 0)),(5,.one (.po 5 0))] fr∧Sub [(2,.box 31 (encE e)),(4,.box 28 [.v (.int .i64 0),.v (.int .i64 0),.v (.float .f64 0),.v (.string ⟨#[]⟩)]),(5,.cell 39 (.d (.v (.int .i64 0))))] σ
  | _,_,_=>False
def pinE (γ:Nat→Nat) (k:Nat):Option Nat:=if k=1002 then some (γ 1002) else if k=1003 then some (γ 1003) else none
theorem zg9 {γ:Nat→Nat} {k:Nat} (h2:k≠1002) (h3:k≠1003):pinE γ k=none:=by unfold pinE;rw [if_neg h2,if_neg h3]
theorem zgP {w:World} {pin:Nat→Option Nat} {df:List Deferred} {S S':Nat→Nat→Prop} {γ:Nat→Nat} {T:Nat→Value} {w':World} {a':Act} {fr:Fr} {σ:Obs} {y x:VV} (hr:Rel (cx Tryz.f129.ntmps ⟨w,fun b=>b < w.heap.size,pin,df⟩ S) γ T S' w' fr σ a')
    (h1:retVM (cx Tryz.f129.ntmps ⟨w,fun b=>b < w.heap.size,pin,df⟩ S) fr σ rsE=some y) (h2:dataV y=some x):∃ v,(results Tryz.f129 a'.tmps).run Tryz.prog w'=.ok v w'∧ ∃ v' S',Ending.returned v=.returned v'∧Below w.heap.size w w'∧(∀ b o,S b o→S' b o)∧(∀ b o,S' b o→S b o∨(w.heap.size≤b∧b < w'.heap.size))∧ResR S' w w' v' (.val x):=by
  obtain ⟨v,g1,g2⟩:=zdJ (X:=cx Tryz.f129.ntmps ⟨w,fun b=>b < w.heap.size,pin,df⟩ S) (fn:=Tryz.f129) zad hr h1
  exact ⟨v,g1,v,S',rfl,⟨hr.st.keep.os,hr.st.keep.tape,hr.st.keep.output,hr.st.keep.size,fun k hk=>hr.st.keep.block k hk hk⟩,hr.st.mon.1,fun b o hs=>(hr.st.set b o hs).imp id fun hnN=>⟨Nat.le_of_not_lt hnN,hr.st.lt b o hs⟩,zcj h2 g2⟩
theorem zo0 (ps:List Pr) (e:E):CallsV Tryz.prog 129 [.dat (encE e),vL (ps.map encPr)] (.val (.tup [.dat (encV (evalR ps e).1),vI (evalR ps e).2])):=by
  have hent:Enters Tryz.prog 129:=fun xs w=>by kernel_rfl
  have hR:=zfu e
  refine ⟨hent,fun S w vs ha lt=>calls_of_wp_defers (fn:=Tryz.f129) rfl rfl ?_⟩
  have hlen:vs.length=2:=ha.1
  have hr:Rel (cx Tryz.f129.ntmps (.of w) S) (fun _=>0) (fun _=>undef) S w (argsF [.dat (encE e),vL (ps.map encPr)]) [] { tmps:=vs.toArray++Array.replicate (Tryz.f129.ntmps - vs.toArray.size) undef,defers:=[] }:=by
    refine ⟨⟨.refl _ _,lt,fun b hb=>hb,fun b o hs=>.inl hs,⟨fun _ _ hs=>hs,fun _ _ _ _ h=>h⟩,fun k o ho=>by simp [look] at ho,fun k k' o o' ho=>by simp [look] at ho⟩,fun t x hx=>?_,?_,rfl⟩
    · obtain ⟨_,h2⟩:=zbJ _ 0 t x hx
      rw [Nat.sub_zero] at h2
      have hlt:t < vs.length:=by rw [ha.1];exact (List.getElem?_eq_some_iff.1 h2).1
      have hv:vs[t]?=some vs[t]:=List.getElem?_eq_getElem hlt
      have e:(vs.toArray++Array.replicate (Tryz.f129.ntmps - vs.toArray.size) undef).getD t undef=vs[t]:=by
        rw [Array.getD_eq_getD_getElem?,Array.getElem?_append_left (by simpa using hlt)]
        simp [hv]
      rw [e]
      exact ha.2 t x _ h2 hv _ _
    · show (vs.toArray++Array.replicate (Tryz.f129.ntmps - vs.toArray.size) undef).size=Tryz.f129.ntmps
      simp [hlen]
  simp only [argsF,List.zipIdx_cons,List.zipIdx_nil,List.map_cons,List.map_nil,Nat.zero_add] at hr
  -- the first region
  refine zix (Q:=QA e ps) (by
    skip
    repeat' (first|refine nx ?_|(refine nx2 ?_ ?_<;>intro hb))
    exact ⟨subA,subA⟩) hr (fun γ1 T1 S1 w1 a1 fr1 σ1 hr1 hq1=>?_) (fun ex _ _ _ _ _ _ _ hne _ hq=>by cases ex<;>first|exact hq.elim|exact absurd rfl hne)
  obtain ⟨hf1,hs1⟩:=hq1
  have hr1:=hr1.sub hf1 hs1
  -- the test
  refine zix (Q:=QB (cx Tryz.f129.ntmps (.of w) S) ps e) ?_ hr1 (fun γ2 T2 S2 w2 a2 fr2 σ2 hr2 hq2=>?_) (fun ex γ2 T2 S2 w2 a2 fr2 σ2 hne hr2 hq=>?_)
  · refine wBO 4 rfl ?_
    refine wRn 4 1002 rfl ?_
    refine wRn 5 1003 rfl ?_
    refine uFzW [(2,encE e)] ?_
    repeat' (first|refine uC (hR) ?_|refine nx ?_|(refine nx2 ?_ ?_<;>intro hb))
    · rename_i hb
      exact ⟨hb,_,by rfl,by rfl⟩
    · rename_i hb
      exact ⟨hb,subA,subA⟩
  · -- the closure is laid
    obtain ⟨hb,hf2,hs2⟩:=hq2
    have hr2:=hr2.sub hf2 hs2
    have v4:a2.tmps.getD 4 undef=.pointer (some ⟨γ2 1002,0,none⟩):=by
      have:=hr2.fr 4 (.one (.po 1002 0)) rfl
      cases this with|one h=>exact h
    have v5:a2.tmps.getD 5 undef=.pointer (some ⟨γ2 1003,0,none⟩):=by
      have:=hr2.fr 5 (.one (.po 1003 0)) rfl
      cases this with|one h=>exact h
    refine wp_seq (wp_region_lit ?_)
    refine wpList_plain rfl fun K1 hK1=>?_
    unfold Oper.wp
    have x4:a2.eval (.tmp 4)=.pointer (some ⟨γ2 1002,0,none⟩):=v4
    have x5:a2.eval (.tmp 5)=.pointer (some ⟨γ2 1003,0,none⟩):=v5
    simp only [execOp,List.map_toArray,List.map_cons,List.map_nil,x4,x5]
    refine hK1 _ _ (wpList_plain rfl fun K2 hK2=>?_)
    have lt11:11 < a2.tmps.size:=by have h:a2.tmps.size=24:=hr2.nt;omega
    generalize hF:Value.func (.func 178) #[] #[.pointer (some ⟨γ2 1002,0,none⟩),.pointer (some ⟨γ2 1003,0,none⟩)]=F
    have x11:(a2.put (some 11) F).eval (.tmp 11)=F:=zeh F lt11
    have hr3:=hr2.put (dst:=some 11) (x:=.junk) (v:=F) (show inF _ (some 11)=true by rfl) (.junk _)
    unfold Oper.wp
    have xd:∀ {o:Oper},o.op=.defer { callee:=.value (.tmp 11),args := #[],argTypes := #[] }→(execOp (a2.put (some 11) F).eval o).run Tryz.prog w2=.ok (.defer { target:=.fn (.func 178) #[.pointer (some ⟨γ2 1002,0,none⟩),.pointer (some ⟨γ2 1003,0,none⟩)],args := #[] }) w2:=fun ho=>by
      simp only [execOp,ho,resolve,x11]
      rw [← hF]
      simp [Deferred.ofValue]
    show Oper.upon Tryz.prog _ (a2.put (some 11) F) K2 _ ((execOp (a2.put (some 11) F).eval _).run Tryz.prog w2)
    rw [xd rfl,Oper.upon_defer]
    refine hK2 _ _ (wpList_nil ?_)
    obtain ⟨dd,hdd⟩:∃ dd:Deferred,dd={ target:=.fn (.func 178) #[.pointer (some ⟨γ2 1002,0,none⟩),.pointer (some ⟨γ2 1003,0,none⟩)],args := #[] }:=⟨_,rfl⟩
    have hr4:Rel (cx Tryz.f129.ntmps ⟨w,fun b=>b < w.heap.size,pinE γ2,[dd]⟩ S) γ2 T2 S2 w2 [(1,vL (ps.map encPr)),(2,.one (.d (.pi (encE e)))),(4,.one (.po 1002 0)),(5,.one (.po 1003 0))] [(1002,.obj 28 zC),(1003,.cell 39 (.d (.v (.int .i64 0))))]
        ({ (a2.put (some 11) F) with defers:=dd :: (a2.put (some 11) F).defers }:Act):=by
      refine ⟨⟨hr3.st.keep,hr3.st.lt,hr3.st.nlt,hr3.st.set,hr3.st.mon,fun k ob hk=>(hr3.st.obj k ob hk).cx2 (fun b hb=>(hr3.st.obj k ob hk).free hb) (fun _ b hb=>?_),hr3.st.dis⟩,fun t x hx=>hr3.fr t x ?_,hr3.nt,?_⟩
      · have hb:(if k < _ then none else pinE γ2 k)=some b:=hb
        split at hb
        · cases hb
        · unfold pinE at hb
          split at hb
          · rename_i e1;subst e1;injection hb
          · split at hb
            · rename_i e1;subst e1;injection hb
            · cases hb
      · simp only [putF,look] at hx ⊢
        by_cases e1:11=t
        · subst e1;simp at hx
        · rw [if_neg e1];exact hx
      · show dd :: (a2.put (some 11) F).defers=[dd]
        rw [show (a2.put (some 11) F).defers=[] from hr3.df]
    have hinv:∀ w:World,(invoke dd.target dd.args).run Tryz.prog w=.ok (.enter 178 #[.pointer (some ⟨γ2 1002,0,none⟩),.pointer (some ⟨γ2 1003,0,none⟩)]) w:=fun w=>by rw [hdd];rfl
    rw [← hdd]
    refine Code.wp_mono (Q:=LQ (cx Tryz.f129.ntmps ⟨w,fun b=>b < w.heap.size,pinE γ2,[dd]⟩ S) (QC (cx Tryz.f129.ntmps ⟨w,fun b=>b < w.heap.size,pinE γ2,[dd]⟩ S) (evalR ps e) (evalE ps e).isNone)) (fun ex a' w' hq=>?_) (W.out ?_ γ2 T2 S2 w2 _ hr4)
    · obtain ⟨γ3,T3,S3,fr3,σ3,hr5,hq⟩:=hq
      cases ex with
      | ret =>
        obtain ⟨_,y,h1,h2⟩:=hq
        obtain ⟨v,g1,g2⟩:=zgP hr5 h1 h2
        show Leaves _ _ _ _ a'.defers .returning w'
        rw [show a'.defers=[dd] from hr5.df,hdd]
        refine leaves_cons (by simp) (by rw [hdd] at hinv;exact hinv w') ((zkL _ _ w').mono ?_)
        rintro ee u' w'' ⟨rfl,rfl,rfl⟩
        exact ⟨v,g1,g2⟩
      | panic ch =>
        obtain ⟨hn,rfl,hf5,hs5⟩:=hq
        have hr5:=hr5.sub hf5 hs5
        have hE:evalR ps e=(zeroVal,4):=by
          unfold evalR
          rw [if_neg (by rw [hb];decide),Option.isNone_iff_eq_none.1 hn]
        obtain ⟨us,u1,⟨u2,u3⟩,u4,u5,u6⟩:=hr5.st.obj 1002 (.obj 28 zC) rfl
        obtain ⟨e0,y1,y2,y3,y4,y5,y6⟩:=hr5.st.obj 1003 (.cell 39 (.d (.v (.int .i64 0)))) rfl
        have q2:γ3 1002=γ2 1002:=(u6 (γ2 1002) (by rfl))
        have q3:γ3 1003=γ2 1003:=(y6 (γ2 1003) (by rfl))
        have hne:γ3 1002≠γ3 1003:=hr5.st.dis 1002 1003 (.obj 28 zC) (.cell 39 (.d (.v (.int .i64 0)))) rfl rfl (by decide) (γ3 1002) rfl
        show Leaves _ _ _ _ a'.defers (.panicking (chainP pvWrong)) w'
        rw [show a'.defers=[dd] from hr5.df,hdd]
        rw [hdd,← q2,← q3] at hinv
        rw [← q2,← q3]
        refine leaves_cons (by simp) (hinv w') ((znY (γ3 1002) (γ3 1003) us.toArray e0 w' u1 (by rw [List.size_toArray,u2];rfl) y1 hne).mono ?_)
        rintro ee u' w'' ⟨rfl,rfl,rfl⟩
        -- memory behind it
        have g1:=hr5.grow (zbh w' (.cells #[] 267)) (fun _ _ h=>h) (fun _ _ h=>.inl h)
        obtain ⟨us',u1',_,u4',u5',u6'⟩:=g1.st.obj 1002 (.obj 28 zC) rfl
        have g2:=(g1.chg (k:=1002) (ob':=.obj 28 zC) rfl rfl rfl (zcc _ (γ3 1002) zeroCs) ⟨zeroCs.toList,setRow_heap _ _ _ _ _ _ u1',⟨rfl,fun j c hc=>?_⟩,u4',u5',u6'⟩).1
        · obtain ⟨e0',y1',_,_,y4',y5',y6'⟩:=g2.st.obj 1003 (.cell 39 (.d (.v (.int .i64 0)))) rfl
          have g3:=(g2.chg (k:=1003) (ob':=.cell 39 (.d (.v (.int .i64 4)))) rfl rfl rfl (zcc _ (γ3 1003) #[.int .i64 4]) ⟨.int .i64 4,setRow_heap _ _ _ _ _ _ y1',.v _ rfl,rfl,y4',y5',y6'⟩).1
          obtain ⟨v,g1,g2⟩:=zgP (x:=.tup [.dat (encV zeroVal),vI 4]) g3 rfl rfl
          refine ⟨v,g1,?_⟩
          rw [hE]
          exact g2
        · match j,hc with
          | 0,hc=>injection hc with hc;subst hc;exact ⟨.int .i64 0,rfl,.v _ rfl,rfl⟩
          | 1,hc=>injection hc with hc;subst hc;exact ⟨.int .i64 0,rfl,.v _ rfl,rfl⟩
          | 2,hc=>injection hc with hc;subst hc;exact ⟨.float .f64 0,rfl,.v _ rfl,rfl⟩
          | 3,hc=>injection hc with hc;subst hc;exact ⟨.string ⟨#[]⟩,rfl,.v _ rfl,rfl⟩
      | normal=>exact hq.elim
      | exit id=>exact hq.elim
      | goto l=>exact hq.elim
      | outgrown=>exact hq.elim
    · have hre:rightE e=true:=by
        unfold exprRight at hb
        rw [Bool.and_eq_true] at hb
        exact hb.2
      have hV:=zmp ps e hre false
      refine zeo ?_
      refine zey ?_
      iterate 4 (first|refine nx ?_|(refine nx2 ?_ ?_<;>intro hb))
      refine zge ?_
      refine wBO 14 (zaH (zg9 (γ:=γ2) (k:=14) (by decide) (by decide))) ?_
      refine wRn 14 1001 (zaH (zg9 (γ:=γ2) (k:=1001) (by decide) (by decide))) ?_
      cases hev:evalE ps e with
      | none =>
        rw [hev] at hV
        simp only at hV
        repeat' (first|(refine zb6 2 179 rfl rfl ?_;simp only [List.take_succ_cons,List.take_zero])|refine nx ?_|(refine nx2 ?_ ?_<;>intro hb))
        refine uPanS hV ?_
        exact ⟨rfl,rfl,subA,subA⟩
      | some r =>
        rw [hev] at hV
        simp only [Bool.false_or] at hV
        obtain ⟨v,ov⟩:=r
        cases ov with
        | true =>
          have hE:evalR ps e=(zeroVal,7):=by unfold evalR;rw [if_neg (by rw [hb];decide),hev];rfl
          rw [hE]
          repeat' (first|refine uM (hV) ?_|refine nx ?_|(refine nx2 ?_ ?_<;>intro hb))
          all_goals exact ⟨rfl,_,by rfl,by rfl⟩
        | false =>
          have hE:evalR ps e=(v,0):=by unfold evalR;rw [if_neg (by rw [hb];decide),hev];rfl
          rw [hE]
          repeat' (first|refine uM (hV) ?_|refine nx ?_|(refine nx2 ?_ ?_<;>intro hb))
          all_goals exact ⟨rfl,_,by rfl,by rfl⟩
  · -- an expression that may not be
    cases ex with
    | ret =>
      obtain ⟨hb,y,h1,h2⟩:=hq
      obtain ⟨v,g1,g2⟩:=zgP hr2 h1 h2
      show Leaves _ _ _ _ a2.defers .returning w2
      rw [show a2.defers=[] from hr2.df]
      refine ⟨v,g1,?_⟩
      have hev:evalR ps e=(zeroVal,1):=by unfold evalR;rw [if_pos hb]
      rw [hev]
      exact g2
    | normal=>exact absurd rfl hne
    | exit id=>exact hq.elim
    | goto l=>exact hq.elim
    | panic ch=>exact hq.elim
    | outgrown=>exact hq.elim
end Go.Proofs.YtiplihojmfbjkaaGreat
namespace Go.Proofs.YtiplihojmfbjkaaGreat
open Go.RowKit
set_option maxHeartbeats 16000000
end Go.Proofs.YtiplihojmfbjkaaGreat
namespace Go.Proofs.YtiplihojmfbjkaaGreat
open Go.RowKit
set_option maxHeartbeats 16000000
def holdsR (ps:List Pr) (e:E):Bool × Int :=
  if e.kind=0 then (true,0) else if (evalR ps e).2≠0 then (false,(evalR ps e).2) else (ofT (evalR ps e).1==1,ofE (evalR ps e).1)
theorem tupBI {a c:Bool} {b d:Int} (h1:a=c) (h2:b=d):VV.tup [vB a,vI b]=VV.tup [vB c,vI d]:=by rw [h1,h2]
theorem zn5 (ps:List Pr) (e:E):CallsV Tryz.prog 79 [.dat (encE e),vL (ps.map encPr)] (.val (.tup [vB (holdsR ps e).1,vI (holdsR ps e).2])):=by
  have hE:=zo0 ps e
  have hd:holdsR ps e=if e.kind=0 then (true,0) else if (evalR ps e).2≠0 then (false,(evalR ps e).2) else (ofT (evalR ps e).1==1,ofE (evalR ps e).1):=rfl
  rw [hd]
  generalize evalR ps e=r at *
  have hO:=Of_v r.1
  generalize ofT r.1=t at *
  generalize ofE r.1=o at *
  (refine zaa (Ty:=Ty) zad Tryz.func79 rfl rfl rfl fun w0 S0=>?_;refine enA ?_)
  repeat' (first|(refine isCl ?_;first|refine uC (hE) ?_|refine uC (hO) ?_)|refine nx ?_|(refine nx2 ?_ ?_<;>intro hb))
  all_goals exact zab (by rfl) (tupBI (by simp [*]) (by simp [*]))
end Go.Proofs.YtiplihojmfbjkaaGreat
namespace Go.Proofs.YtiplihojmfbjkaaGreat
open Go.RowKit Go.ChangeShapes Go.WideShapes Go.Deep
section
variable {H:Type} {enc:TypeId × Value→H} {P:Program} {w:World} {base:Nat} {spare:Nat→Bool} {held:Bool}
def contig (P:Program):List Field→Nat→Option Nat
  | [],n=>some n
  | f :: l,n=>if f.offset=n∧0 < P.cellsOf f.type then contig P l (n+P.cellsOf f.type) else none
def simpleT (P:Program) (L:List TypeId) (t:TypeId):Bool :=
  match P.underlying t with
  | some (.int _)|some .bool|some .string|some (.float _)=>true
  | some (.slice e)=>L.contains e&&Nat.blt 0 (P.cellsOf e)&&Nat.blt 0 (P.bytesOf e)
  | some (.struct fs)=>(fs.toList.all fun f=>L.contains f.type)&&(contig P fs.toList 0==some (P.cellsOf t))
  | _=>false
def Sh (P:Program):Nat→TypeId→List D→Prop
  | 0,_,_=>False
  | n+1,t,ds=>match P.underlying t with
    | some (.int k)=>∃ m,(Lit.int k m).wf=true∧ds=[.v (.int k m)]
    | some .bool=>∃ b,ds=[.v (.bool b)]
    | some .string=>∃ s:ByteArray,s.size≤140737488351232∧ds=[.v (.string s)]
    | some (.float k)=>∃ m,ds=[.v (.float k m)]
    | some (.struct fs)=>ds.length=P.cellsOf t∧ ∀ (i:Nat) (f:Field),fs[i]?=some f→Sh P n f.type ((ds.drop f.offset).take (P.cellsOf f.type))
    | some (.slice e)=>∃ rows,ds=[.sl rows]∧rows.length * P.bytesOf e≤140737488351232∧ ∀ q∈rows,Sh P n e q∧q.length=P.cellsOf e
    | _=>False
abbrev SW_ (w:World):Nat→Nat→Prop:=fun b _=>b < w.heap.size
theorem zjl {t:TypeId} {k:FloatKind} {fuel:Nat} {cs:List Value} {x:DataW H × List MemPlace} (ht:P.underlying t=some (.float k)) (h:DataW.trod enc P w base spare held fuel t cs=some x):∃ n,cs=[.float k n]:=by
  cases fuel with
  | zero=>simp [DataW.trod] at h
  | succ n =>
    unfold DataW.trod at h
    rw [ht] at h
    split at h<;>simp_all
theorem zdA {e:TypeId}:∀ (l:List (DataW H)) (d:DataW H),d∈l→ ∀ v∈d.weights P e,v∈DataW.weightsAll P e l
  | [],_,h,_,_=>by cases h
  | x :: l,d,h,v,hv=>by
    unfold DataW.weightsAll
    rcases List.mem_cons.1 h with rfl|h
    · exact List.mem_append_left _ hv
    · exact List.mem_append_right _ (zdA l d h v hv)
theorem RDL.len {S:Nat→Nat→Prop} {ds:List D} {us:List Value} (h:RDL S w ds us):ds.length=us.length:=h.1.symm
theorem zfw {n:Nat} {S:Nat→Nat→Prop} (cs:List Value):∀ (fs:List Field) (a m:Nat),contig P fs a=some m→m≤cs.length→
    (∀ f∈fs, ∃ part,RDL S w part ((cs.drop f.offset).take (P.cellsOf f.type))∧Sh P n f.type part)→
    a≤m∧ ∃ ds,RDL S w ds ((cs.drop a).take (m - a))∧ ∀ f∈fs,a≤f.offset∧Sh P n f.type ((ds.drop (f.offset - a)).take (P.cellsOf f.type))
  | [],a,m,h,hm,_=>by
    simp only [contig,Option.some.injEq] at h
    subst h
    exact ⟨Nat.le_refl _,[],by simpa using RDL.nil,fun f hf=>by cases hf⟩
  | f :: fs,a,m,h,hm,hp=>by
    simp only [contig] at h
    split at h
    · rename_i hc
      obtain ⟨ho,hpos⟩:=hc
      obtain ⟨hle,ds,h1,h2⟩:=zfw cs fs _ m h hm (fun g hg=>hp g (List.mem_cons_of_mem _ hg))
      obtain ⟨part,h3,h4⟩:=hp f List.mem_cons_self
      rw [ho] at h3
      have hpl:part.length=P.cellsOf f.type:=by rw [h3.len,List.length_take,List.length_drop];omega
      refine ⟨by omega,part++ds,?_,fun g hg=>?_⟩
      · have e:(cs.drop a).take (m - a)=(cs.drop a).take (P.cellsOf f.type)++(cs.drop (a+P.cellsOf f.type)).take (m - (a+P.cellsOf f.type)):=by
          rw [show m - a=P.cellsOf f.type+(m - (a+P.cellsOf f.type)) by omega,List.take_add,List.drop_drop]
        rw [e]
        exact h3.app h1
      · rcases List.mem_cons.1 hg with rfl|hg
        · refine ⟨by omega,?_⟩
          rw [ho,Nat.sub_self,List.drop_zero,← hpl,List.take_left]
          exact h4
        · obtain ⟨h5,h6⟩:=h2 g hg
          refine ⟨by omega,?_⟩
          rw [List.drop_append,List.drop_of_length_le (by omega),List.nil_append,hpl,show g.offset - a - P.cellsOf f.type=g.offset - (a+P.cellsOf f.type) by omega]
          exact h6
    · cases h
theorem ziF {n:Nat} (h:n≤reachBytes):n≤140737488351232:=Nat.le_trans h (by decide)
theorem zhN:∀ (ts:List TypeId) (ds:List (DataW H)) (i:Nat) (t:TypeId) (d:DataW H),ts[i]?=some t→ds[i]?=some d→ ∀ v∈d.weights P t,v∈DataW.weightsEach P ts ds :=
  fun ts ds i _ _ ht hd v hv=>DataW.weights_mem_each (P:=P) (ts:=ts) (ds:=ds) (j:=i) ht hd v hv
theorem zfZ (L:List TypeId) (hL:L.all (simpleT P L)=true):∀ (fuel:Nat) (t:TypeId) (cs:List Value) (x:DataW H × List MemPlace),L.contains t=true→DataW.trod enc P w base spare held fuel t cs=some x→((x.1.weights P t).all (· ≤ reachBytes)=true)→
    ∃ ds,RDL (SW_ w) w ds cs∧Sh P fuel t ds:=by
  intro fuel
  induction fuel using Nat.strongRecOn with
  | _ fuel ih =>
  intro t cs x ht h hw
  have hs:=List.all_eq_true.1 hL t (by simpa using ht)
  have hf0:∃ n,fuel=n+1:=by
    cases fuel with
    | zero=>simp [DataW.trod] at h
    | succ n=>exact ⟨n,rfl⟩
  obtain ⟨n0,hn0⟩:=hf0
  unfold simpleT at hs
  split at hs
  · rename_i k hu
    obtain ⟨m,rfl,_,hwf⟩:=DataW.trod_int hu h
    exact ⟨[.v (.int k m)],.cons (.v _ rfl) .nil,by rw [hn0];unfold Sh;rw [hu];exact ⟨m,hwf,rfl⟩⟩
  · rename_i hu
    obtain ⟨b,rfl,_⟩:=DataW.trod_bool hu h
    exact ⟨[.v (.bool b)],.cons (.v _ rfl) .nil,by rw [hn0];unfold Sh;rw [hu];exact ⟨b,rfl⟩⟩
  · rename_i hu
    obtain ⟨s,rfl,hx,_⟩:=DataW.trod_string hu h
    refine ⟨[.v (.string s)],.cons (.v _ rfl) .nil,by
      rw [hn0];unfold Sh;rw [hu]
      refine ⟨s,?_,rfl⟩
      rw [hx] at hw
      have:=List.all_eq_true.1 hw s.data.toList.length (by simp [DataW.weights])
      have h2:=ziF (of_decide_eq_true this)
      simpa using h2⟩
  · rename_i k hu
    obtain ⟨m,rfl⟩:=zjl hu h
    exact ⟨[.v (.float k m)],.cons (.v _ rfl) .nil,by rw [hn0];unfold Sh;rw [hu];exact ⟨m,rfl⟩⟩
  · rename_i e hu
    simp only [Bool.and_eq_true] at hs
    obtain ⟨⟨he,hce⟩,hbe⟩:=hs
    have hce':0 < P.cellsOf e:=by simpa [Nat.blt_eq] using hce
    have hbe':0 < P.bytesOf e:=by simpa [Nat.blt_eq] using hbe
    rcases DataW.trod_slice hu h with ⟨rfl,_⟩ | ⟨a,len,cap,elems,rest,n,hn,rfl,hx,hb,hl,hm,hlen,hel,_,_⟩
    · refine ⟨[.sl []],.cons RD.nil_ .nil,?_⟩
      rw [hn0];unfold Sh;rw [hu]
      exact ⟨[],rfl,by simp,by simp⟩
    · have hwS:(elems.length+rest.length) * P.bytesOf e≤140737488351232:=by
        rw [hx] at hw
        have:=List.all_eq_true.1 hw ((elems.length+rest.length) * P.bytesOf e) (by unfold DataW.weights;rw [hu];simp)
        exact ziF (of_decide_eq_true this)
      have each:∀ i,i < len→ ∃ (ds:List D) (us:List Value),w.cells? base (a.add (i * P.cellsOf e)) (P.cellsOf e)=some us∧RDL (SW_ w) w ds us∧Sh P n e ds:=by
        intro i hi
        have h4:=hel i hi
        rw [List.getElem?_eq_getElem (by omega)] at h4
        obtain ⟨us,hc,htr⟩:=Option.bind_eq_some_iff.1 h4
        obtain ⟨ds,h5,h6⟩:=ih n (by omega) e us _ he htr (by
          refine List.all_eq_true.2 fun v hv=>List.all_eq_true.1 hw v ?_
          rw [hx]
          unfold DataW.weights
          rw [hu]
          exact List.mem_cons_of_mem _ (List.mem_append_left _ (zdA _ _ (List.mem_map_of_mem (List.getElem_mem (by omega))) v hv)))
        exact ⟨ds,us,hc,h5,h6⟩
      let D_:Nat→List D:=fun i=>if h:i < len then Classical.choose (each i h) else []
      let U_:Nat→List Value:=fun i=>if h:i < len then Classical.choose (Classical.choose_spec (each i h)) else []
      have hDU:∀ i,i < len→w.cells? base (a.add (i * P.cellsOf e)) (P.cellsOf e)=some (U_ i)∧RDL (SW_ w) w (D_ i) (U_ i)∧Sh P n e (D_ i):=by
        intro i hi
        simp only [D_,U_,dif_pos hi]
        exact Classical.choose_spec (Classical.choose_spec (each i hi))
      have hcl:∀ i,i < len→(U_ i).length=P.cellsOf e∧ ∀ j,j < P.cellsOf e→w.cell? ((a.add (i * P.cellsOf e)).add j)=(U_ i)[j]?:=fun i hi=>by
        obtain ⟨_,h1,h2⟩:=World.cells?_some (hDU i hi).1
        exact ⟨h1,h2⟩
      have hlen2:((List.range len).map D_).length=len:=by simp
      have hcell:∀ i j,i < len→j < P.cellsOf e→ ∃ u,(U_ i)[j]?=some u∧w.cell? ((a.add (i * P.cellsOf e)).add j)=some u:=fun i j hi hj=>by
        obtain ⟨h1,h2⟩:=hcl i hi
        have hg:=List.getElem?_eq_getElem (show j < (U_ i).length by omega)
        exact ⟨_,hg,(h2 j hj).trans hg⟩
      have hspot:0 < len→a.spot=none:=fun h0=>by
        obtain ⟨u,_,hu2⟩:=hcell 0 0 h0 hce'
        have e0:(a.add (0 * P.cellsOf e)).add 0=a:=by simp [Addr.add]
        rw [e0] at hu2
        unfold World.cell? at hu2
        split at hu2
        · split at hu2
          · cases hu2
          · rename_i hsp;simpa using hsp
        · cases hu2
      refine ⟨[.sl ((List.range len).map D_)],.cons ?_ .nil,?_⟩
      · rw [show Value.slice (some a) len cap=Value.slice (some a) ((List.range len).map D_).length cap by rw [hlen2]]
        refine .sl _ (some a) cap (P.cellsOf e) (fun i j=>((U_ i)[j]?).getD undef) (by rw [hlen2];exact hl) (by
          rw [hlen2]
          have h9:len * 1≤(elems.length+rest.length) * P.bytesOf e:=Nat.mul_le_mul (by omega) hbe'
          omega) (fun h=>by cases h) (fun i q hq=>?_) (fun i q hq j y hy=>?_) (fun a' ha h0=>by cases ha;exact hspot (by rw [hlen2] at h0;exact h0)) fun a' ha i hi j hj=>?_
        · rw [List.getElem?_map,Option.map_eq_some_iff] at hq
          obtain ⟨i',hi',rfl⟩:=hq
          have hlt:i < len:=by have:=(List.getElem?_eq_some_iff.1 hi').1;simpa using this
          rw [List.getElem?_range hlt] at hi'
          injection hi' with hi'
          subst hi'
          rw [(hDU i hlt).2.1.len,(hcl i hlt).1]
        · rw [List.getElem?_map,Option.map_eq_some_iff] at hq
          obtain ⟨i',hi',rfl⟩:=hq
          have hlt:i < len:=by have:=(List.getElem?_eq_some_iff.1 hi').1;simpa using this
          rw [List.getElem?_range hlt] at hi'
          injection hi' with hi'
          subst hi'
          obtain ⟨u,hu1,hu2⟩:=(hDU i hlt).2.1.2 j y hy
          rw [hu1];exact hu2
        · cases ha
          rw [hlen2] at hi
          obtain ⟨u,hu1,hu2⟩:=hcell i j hi hj
          have hsp:=hspot (by omega)
          obtain ⟨b,off,sp⟩:=a
          simp only at hsp
          subst hsp
          rw [Addr.add_lit,Addr.add_lit] at hu2
          rw [hu1,← Nat.add_assoc]
          have hlt:=World.block_lt_of_cell? w _ hu2
          exact ⟨hlt,hu2⟩
      · rw [hn];unfold Sh;rw [hu]
        refine ⟨_,rfl,?_,fun q hq=>?_⟩
        · rw [hlen2]
          exact Nat.le_trans (Nat.mul_le_mul_right _ (by omega)) hwS
        · obtain ⟨i,hi,rfl⟩:=List.mem_map.1 hq
          have hlt:i < len:=by simpa using hi
          exact ⟨(hDU i hlt).2.2,by rw [(hDU i hlt).2.1.len,(hcl i hlt).1]⟩
  · rename_i fs hu
    simp only [Bool.and_eq_true,beq_iff_eq] at hs
    obtain ⟨hmem,hcon⟩:=hs
    obtain ⟨xs,n,hn,hx,hlen,hxs,hfl⟩:=DataW.trod_struct hu h
    obtain ⟨_,ds,h1,h2⟩:=zfw (w:=w) (P:=P) (n:=n) (S:=SW_ w) cs fs.toList 0 _ hcon (by omega) (fun f hf=>by
      obtain ⟨i,hi,rfl⟩:=List.mem_iff_getElem.1 hf
      have hfi:fs[i]?=some fs.toList[i]:=by rw [← Array.getElem?_toList,List.getElem?_eq_getElem hi]
      have hi':i < xs.length:=by rw [hxs];simpa using hi
      have h3:=(hfl i _ hfi).trans (List.getElem?_eq_getElem hi')
      refine ih n (by omega) _ _ _ (List.all_eq_true.1 hmem _ (List.getElem_mem hi)) h3 (List.all_eq_true.2 fun v hv=>List.all_eq_true.1 hw v ?_)
      rw [hx]
      unfold DataW.weights
      rw [hu]
      exact zhN _ _ i fs.toList[i].type xs[i].1 (by rw [List.getElem?_map,List.getElem?_eq_getElem hi];rfl) (by rw [List.getElem?_map,List.getElem?_eq_getElem hi'];rfl) v hv)
    rw [List.drop_zero,Nat.sub_zero,List.take_of_length_le (by omega)] at h1
    refine ⟨ds,h1,?_⟩
    rw [hn];unfold Sh;rw [hu]
    refine ⟨by rw [h1.len,hlen],fun i f hf=>?_⟩
    have:=(h2 f (by rw [← Array.getElem?_toList] at hf;exact List.mem_of_getElem? hf)).2
    rwa [Nat.sub_zero] at this
  · cases hs
end
end Go.Proofs.YtiplihojmfbjkaaGreat
