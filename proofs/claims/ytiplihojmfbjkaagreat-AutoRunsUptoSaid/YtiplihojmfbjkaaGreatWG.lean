/- Calls that write variables of the caller's: a slice of its own,held in variables that closures share. -/
import Derived.Test.YtiplihojmfbjkaaGreatWY
namespace Go.Proofs.YtiplihojmfbjkaaGreat
open Go.RowKit
section
variable {X X':Ctx} {γ γ' γ2:Nat→Nat} {T T' T2:Nat→Value} {S S':Nat→Nat→Prop} {w w':World} {fr:Fr} {σ:Obs} {a:Act} {o:Oper}
theorem RO.cx {k:Nat} {ob:Ob} (h:RO X γ T S w k ob) (hN:∀ b,fp γ T k ob b→¬ X'.N b) (hp:∀ b,X'.pin k=some b→γ k=b):RO X' γ T S w k ob:=by
  cases ob with
  | box ty cs=>obtain ⟨us,h1,h2,h3,_⟩:=h;exact ⟨us,h1,h2,h3,hN _ rfl⟩
  | cell ty c=>obtain ⟨u,h1,h2,h3,h4,_,_⟩:=h;exact ⟨u,h1,h2,h3,h4,hN _ rfl,hp⟩
  | tok e sz=>obtain ⟨n,xs,h1,h2⟩:=h;exact ⟨n,xs,h1,fun g hg=>⟨hN g hg,(h2 g hg).2⟩⟩
  | arr e sz rows=>obtain ⟨us,h1,h2,h3,h4,_,_⟩:=h;exact ⟨us,h1,h2,h3,h4,hN _ rfl,hp⟩
  | obj ty cs=>obtain ⟨us,h1,h2,h3,_,_⟩:=h;exact ⟨us,h1,h2,h3,hN _ rfl,hp⟩
  | mp es=>obtain ⟨ms,cl,h1,h2,h3,_,_⟩:=h;exact ⟨ms,cl,h1,h2,h3,hN _ rfl,hp⟩
  | junk=>trivial
abbrev Cells:=List (Nat × TypeId × C)
def cellsO (l:Cells):Obs:=l.map fun p=>(p.1,.cell p.2.1 p.2.2)
def gO (j:Nat) (e:TypeId) (sz:Nat) (l:Cells):Obs:=(j,.tok e sz) :: cellsO l
def inK (l:Cells) (k:Nat):Bool:=l.any fun p=>p.1==k
def okC (j:Nat) (l:Cells):C→Bool
  | .d _=>true
  | .own i _=>i==j
  | .po k _=>inK l k
  | .mr _=>false
  | .que _ _ _ _=>false
  | .fn _ caps=>caps.all (inK l)
  | .win _ _ _ _ _=>false
  | .pe _ _ _ _=>false
  | .any=>true
def pinOf (l:Cells) (γ:Nat→Nat) (k:Nat):Option Nat:=if inK l k=true then some (γ k) else none
def ictx (P:Program) (w:World) (N:Nat→Prop) (S:Nat→Nat→Prop) (pin:Nat→Option Nat):Ctx:=⟨P,fun _=>none,0,w,N,S,pin,fun k h=>absurd h (Nat.not_lt_zero k),[]⟩
theorem zhU {l:Cells} {k:Nat} {ob:Ob} (h:(k,ob)∈cellsO l):inK l k=true∧ ∃ ty c,ob=.cell ty c∧(k,ty,c)∈l:=by
  obtain ⟨⟨k',ty,c⟩,h1,h2⟩:=List.mem_map.1 h
  injection h2 with h2 h3
  subst h2;subst h3
  exact ⟨List.any_eq_true.2 ⟨_,h1,by simp⟩,ty,c,rfl,h1⟩
theorem zgk {l:Cells} {k:Nat} (h:inK l k=true):∃ ty c,(k,ty,c)∈l∧(k,Ob.cell ty c)∈cellsO l:=by
  obtain ⟨⟨k',ty,c⟩,h1,h2⟩:=List.any_eq_true.1 h
  obtain rfl:k'=k:=by simpa using h2
  exact ⟨ty,c,h1,List.mem_map.2 ⟨_,h1,rfl⟩⟩
structure CallsG (P:Program) (f:FuncId) (args:List VV) (j:Nat) (e:TypeId) (sz:Nat) (l0:Cells) (x:VV) (l1:Cells):Prop where
  ent:Enters P f
  out:∀ (N:Nat→Prop) (γ:Nat→Nat) (T:Nat→Value) (S:Nat→Nat→Prop) (w:World) (vs:List Value),St (ictx P w N S (pinOf l0 γ)) γ T S w (gO j e sz l0)→
    (vs.length=args.length∧ ∀ (i:Nat) (y:VV) (v:Value),args[i]?=some y→vs[i]?=some v→RV γ T S w y v)→
    Calls P f vs.toArray w (fun ex w'=>∃ v γ' T' S',ex=.returned v∧St (ictx P w N S (pinOf l0 γ)) γ' T' S' w' (gO j e sz l1)∧PV S' w' x v)
def EndG (X:Ctx) (rs:List ResultVar) (j:Nat) (e:TypeId) (sz:Nat) (x:VV) (l1:Cells):Exit→Fr→Obs→Prop
  | .normal,fr,σ | .ret,fr,σ=>(retV X fr σ rs).bind dataV=some x∧ ∀ p∈gO j e sz l1,look σ p.1=some p.2
  | _,_,_=>False
theorem zcn {P:Program} {Ty:TypeId→Option TyI} {f:FuncId} {fn:Func} {c:Code} {args:List VV} {j:Nat} {e:TypeId} {sz:Nat} {l0 l1:Cells} {x:VV} (hT:∀ t i,Ty t=some i→TyOK P t i)
    (hf : P.funcs[f]? = some fn) (hname : (fn.name == "runtime.NumGoroutine") = false) (hb : fn.body = some c) (hn : Nat.ble args.length fn.ntmps = true) (hk0 : (l0.all fun p => Nat.ble fn.ntmps p.1) = true)
    (h:∀ (w0:W0) (S0:Nat→Nat→Prop),(∀ k,inK l0 k=false→w0.pin k=none)→W (ctx P Ty fn.ntmps w0 S0) c (argsF args) (gO j e sz l0) (EndG (ctx P Ty fn.ntmps w0 S0) fn.results.toList j e sz x l1)):CallsG P f args j e sz l0 x l1:=by
  have hent:Enters P f:=fun xs w=>by
    have h1 : fn.name ≠ "runtime.NumGoroutine" := by simpa using hname
    simp [callFunc,hf,h1,hb]
  have hkey:∀ k,inK l0 k=true→fn.ntmps≤k:=fun k hk=>by
    obtain ⟨ty,c,h1,_⟩:=zgk hk
    exact Nat.le_of_ble_eq_true (List.all_eq_true.1 hk0 _ h1)
  refine ⟨hent,fun N γ T S w vs hst ha=>calls_of_wp hf hb ?_⟩
  have hle:vs.length≤fn.ntmps:=by rw [ha.1];exact Nat.le_of_ble_eq_true hn
  have hr:Rel (ctx P Ty fn.ntmps ⟨w,N,pinOf l0 γ,[]⟩ S) γ T S w (argsF args) (gO j e sz l0) { tmps:=vs.toArray++Array.replicate (fn.ntmps - vs.toArray.size) undef,defers:=[] }:=by
    refine ⟨⟨hst.keep,hst.lt,hst.nlt,hst.set,hst.mon,fun k o ho=>(hst.obj k o ho).cx (fun b hb=>(hst.obj k o ho).free hb) (fun b hb=>?_),hst.dis⟩,fun t y hy=>?_,by simp [ctx];omega,rfl⟩
    · have hb:(if k < fn.ntmps then none else pinOf l0 γ k)=some b:=hb
      split at hb
      · cases hb
      · unfold pinOf at hb
        split at hb
        · injection hb
        · cases hb
    · obtain ⟨_,h2⟩:=zbJ args 0 t y hy
      rw [Nat.sub_zero] at h2
      have hlt:t < vs.length:=by rw [ha.1];exact (List.getElem?_eq_some_iff.1 h2).1
      have hv:vs[t]?=some vs[t]:=List.getElem?_eq_getElem hlt
      have e:(vs.toArray++Array.replicate (fn.ntmps - vs.toArray.size) undef).getD t undef=vs[t]:=by
        rw [Array.getD_eq_getD_getElem?,Array.getElem?_append_left (by simpa using hlt)]
        simp [hv]
      rw [e]
      exact ha.2 t y _ h2 hv
  refine Code.wp_mono (fun ex a' w' hq=>?_) ((h ⟨w,N,pinOf l0 γ,[]⟩ S (fun k hk=>by show pinOf l0 γ k=none;unfold pinOf;rw [hk];rfl)).out _ _ _ _ _ hr)
  obtain ⟨γ',T',S',fr,σ,hr',hq⟩:=hq
  have hfin:(retV (ctx P Ty fn.ntmps ⟨w,N,pinOf l0 γ,[]⟩ S) fr σ fn.results.toList).bind dataV=some x∧(∀ p∈gO j e sz l1,look σ p.1=some p.2)→ ∃ v,(results fn a'.tmps).run P w'=.ok v w'∧
      ∃ v' γ' T' S',Ending.returned v=.returned v'∧St (ictx P w N S (pinOf l0 γ)) γ' T' S' w' (gO j e sz l1)∧PV S' w' x v':=by
    intro ⟨hok,hσ⟩
    obtain ⟨y,hx1,hx2⟩:=Option.bind_eq_some_iff.1 hok
    obtain ⟨v,g1,g2⟩:=zcE (X:=ctx P Ty fn.ntmps ⟨w,N,pinOf l0 γ,[]⟩ S) hT hr' hx1
    have hlk:∀ k ob,look (gO j e sz l1) k=some ob→look σ k=some ob:=fun k ob hk=>hσ (k,ob) (zaD hk)
    refine ⟨v,g1,v,γ',T',S',rfl,⟨hr'.st.keep,hr'.st.lt,hr'.st.nlt,hr'.st.set,hr'.st.mon,fun k ob hk=>?_,fun k k' o o' hk hk'=>hr'.st.dis k k' o o' (hlk k o hk) (hlk k' o' hk')⟩,zcj hx2 g2⟩
    have h1:=hr'.st.obj k ob (hlk k ob hk)
    have hmem:=zaD hk
    rcases List.mem_cons.1 hmem with h2|h2
    · injection h2 with h2 h3
      subst h2;subst h3
      obtain ⟨n,xs,q1,q2⟩:=h1
      exact ⟨n,xs,q1,q2⟩
    · obtain ⟨_,ty,c,rfl,_⟩:=zhU h2
      obtain ⟨u,q1,q2,q3,q4,q5,q6⟩:=h1
      refine ⟨u,q1,q2,q3,q4,q5,fun b hb=>?_⟩
      have hb':pinOf l0 γ k=some b:=hb
      refine q6 b ?_
      show (if k < fn.ntmps then none else pinOf l0 γ k)=some b
      have hin:inK l0 k=true:=by
        unfold pinOf at hb'
        split at hb'
        · assumption
        · cases hb'
      have:=hkey k hin
      rw [if_neg (by omega)];exact hb'
  cases ex with
  | normal=>obtain ⟨v,g1,g2⟩:=hfin hq;exact ⟨hr'.df,v,g1,g2⟩
  | ret=>obtain ⟨v,g1,g2⟩:=hfin hq;exact ⟨hr'.df,v,g1,g2⟩
  | exit id=>exact hq.elim
  | goto l=>exact hq.elim
  | panic ch=>exact hq.elim
  | outgrown=>exact hq.elim
theorem RC.sw {j:Nat} {l:Cells} (hg:∀ k,inK l k=true→γ' k=γ k) (ht:T' j=T2 j) {c:C} (hc:okC j l c=true) {v:Value} (h:RC γ' T' S w c v):RC γ T2 S w c v:=by
  cases c with
  | d x=>exact h
  | own i r =>
    obtain rfl:i=j:=by simpa [okC] using hc
    exact ⟨h.1,ht.symm.trans h.2⟩
  | po k o=>simp only [okC] at hc;simp only [RC,hg k hc] at h ⊢;exact h
  | mr k=>cases hc
  | que k sz tot r=>cases hc
  | fn f caps =>
    simp only [okC,List.all_eq_true] at hc
    simp only [RC] at h ⊢
    rw [h];congr 2
    apply List.map_congr_left
    intro k hk
    rw [hg k (hc k hk)]
  | win k lo n c sz=>cases hc
  | pe k i o sz=>cases hc
  | any=>exact h
theorem Rel.backG {j:Nat} {e:TypeId} {sz:Nat} {l0 l1:Cells} (hr:Rel X γ T S w fr σ a) (hσ:∀ p∈gO j e sz l0,look σ p.1=some p.2)
    (hst:St (ictx X.P w (fun b=>b < w.heap.size∧ ∀ p∈gO j e sz l0,¬ fp γ T p.1 p.2 b) S (pinOf l0 γ)) γ' T' S' w' (gO j e sz l1)) (hk1:∀ k,inK l1 k=inK l0 k) (hj:inK l0 j=false) (hok:(l1.all fun p=>okC j l1 p.2.2)=true) :
    Rel X γ (setK T j (T' j)) S' w' (stripF j fr) (gO j e sz l1++stripS j σ) a:=by
  have hnN:∀ b,¬ (b < w.heap.size∧ ∀ p∈gO j e sz l0,¬ fp γ T p.1 p.2 b)→¬ X.N b:=fun b hb hN=>by
    have h1:=hr.st.nlt b hN
    have h2:=hr.st.keep.size
    refine hb ⟨by omega,fun p hp hfp=>?_⟩
    exact (hr.st.obj _ _ (hσ p hp)).free hfp hN
  have hlook1:∀ k ob,look (gO j e sz l1) k=some ob→(k=j∧ob=.tok e sz)∨(inK l0 k=true∧k≠j∧ ∃ ty c,ob=.cell ty c∧okC j l1 c=true):=fun k ob hk=>by
    rcases List.mem_cons.1 (zaD hk) with h2|h2
    · injection h2 with h2 h3;exact .inl ⟨h2,h3⟩
    · obtain ⟨h3,ty,c,h4,h5⟩:=zhU h2
      refine .inr ⟨by rw [← hk1];exact h3,fun e2=>?_,ty,c,h4,List.all_eq_true.1 hok _ h5⟩
      rw [e2,hk1,hj] at h3;cases h3
  have hγ:∀ k,inK l1 k=true→γ' k=γ k:=fun k hk=>by
    obtain ⟨ty,c,h1,h2⟩:=zgk hk
    cases hl:look (gO j e sz l1) k with
    | none =>
      exfalso
      have:∀ (s:Obs),(k,Ob.cell ty c)∈s→look s k≠none:=fun s=>by
        induction s with
        | nil=>intro h;cases h
        | cons p s ih =>
          intro h
          simp only [look]
          split
          · simp
          · rename_i hne
            rcases List.mem_cons.1 h with h|h
            · subst h;exact absurd rfl hne
            · exact ih h
      exact this _ (List.mem_cons_of_mem _ h2) hl
    | some ob =>
      rcases hlook1 k ob hl with ⟨rfl,_⟩ | ⟨hin,_,ty',c',rfl,_⟩
      · rw [hk1,hj] at hk;cases hk
      · obtain ⟨_,_,_,_,_,_,q⟩:=hst.obj k _ hl
        exact q _ (by show pinOf l0 γ k=_;unfold pinOf;rw [if_pos hin])
  have hS':∀ b i,S' b i→S b i∨¬ (b < w.heap.size∧ ∀ p∈gO j e sz l0,¬ fp γ T p.1 p.2 b):=hst.set
  have hk:Kp S w w':=hst.mon.2
  have happ:∀ k ob,look (gO j e sz l1++stripS j σ) k=some ob→look (gO j e sz l1) k=some ob∨(look (gO j e sz l1) k=none∧look (stripS j σ) k=some ob):=fun k ob=>by
    generalize gO j e sz l1=s
    induction s with
    | nil=>intro h;exact .inr ⟨rfl,h⟩
    | cons p s ih =>
      intro h
      obtain ⟨k',o'⟩:=p
      rw [List.cons_append] at h
      simp only [look] at h ⊢
      split at h
      · rename_i e2;rw [if_pos e2];exact .inl h
      · rename_i e2;rw [if_neg e2];exact ih h
  have hnot:∀ k,look (gO j e sz l1) k=none→k≠j∧inK l0 k=false:=fun k hk2=>by
    have h1:k≠j:=fun e2=>by subst e2;simp [gO,look] at hk2
    refine ⟨h1,?_⟩
    cases hin:inK l0 k with
    | false=>rfl
    | true =>
      exfalso
      rw [← hk1] at hin
      obtain ⟨ty,c,_,h2⟩:=zgk hin
      have:∀ (s:Obs),(k,Ob.cell ty c)∈s→look s k≠none:=fun s=>by
        induction s with
        | nil=>intro h;cases h
        | cons p s ih =>
          intro h
          simp only [look]
          split
          · simp
          · rename_i hne
            rcases List.mem_cons.1 h with h|h
            · subst h;exact absurd rfl hne
            · exact ih h
      exact this _ (List.mem_cons_of_mem _ h2) hk2
  -- what the others hold lies where nothing is written
  have hold:∀ k ob,look (gO j e sz l1) k=none→look σ k=some ob→ ∀ b,fp γ T k ob b→b < w.heap.size∧ ∀ p∈gO j e sz l0,¬ fp γ T p.1 p.2 b:=fun k ob hn hl b hb=>by
    refine ⟨(hr.st.obj k ob hl).lt hb,fun p hp hfp=>?_⟩
    obtain ⟨h1,h2⟩:=hnot k hn
    refine hr.st.dis k p.1 ob p.2 hl (hσ p hp) (fun e2=>?_) b hb hfp
    rcases List.mem_cons.1 hp with h3|h3
    · rw [h3] at e2;exact h1 e2
    · have:=(zhU (k:=p.1) (ob:=p.2) h3).1
      rw [← e2,h2] at this;cases this
  have hRO1:∀ k ob,look (gO j e sz l1) k=some ob→RO X γ (setK T j (T' j)) S' w' k ob:=fun k ob hl=>by
    have h1:=hst.obj k ob hl
    rcases hlook1 k ob hl with ⟨rfl,rfl⟩ | ⟨hin,hkj,ty,c,rfl,hc⟩
    · obtain ⟨n,xs,q1,q2⟩:=h1
      refine ⟨n,xs,by rw [zaq];exact q1,fun g hg=>?_⟩
      rw [zaq] at hg
      exact ⟨hnN g (q2 g hg).1,(q2 g hg).2⟩
    · obtain ⟨u,q1,q2,q3,q4,q5,q6⟩:=h1
      have hgk:=hγ k (by rw [hk1];exact hin)
      rw [hgk] at q1 q4 q5
      refine ⟨u,q1,q2.sw hγ (by rw [zaq]) hc,q3,q4,hnN _ q5,?_⟩
      obtain ⟨ty0,c0,_,h3⟩:=zgk hin
      obtain ⟨_,_,_,_,_,_,q⟩:=hr.st.obj k _ (hσ _ (List.mem_cons_of_mem _ h3))
      exact q
  have hfp1:∀ k ob,look (gO j e sz l1) k=some ob→ ∀ b,fp γ (setK T j (T' j)) k ob b→¬ (b < w.heap.size∧ ∀ p∈gO j e sz l0,¬ fp γ T p.1 p.2 b)∧fp γ' T' k ob b:=fun k ob hl b hb=>by
    have:fp γ' T' k ob b:=by
      rcases hlook1 k ob hl with ⟨rfl,rfl⟩ | ⟨hin,hkj,ty,c,rfl,hc⟩
      · simpa only [fp,zaq] using hb
      · simpa only [fp,hγ k (by rw [hk1];exact hin)] using hb
    exact ⟨(hst.obj k ob hl).free this,this⟩
  have cut:∀ k ob,look (stripS j σ) k=some ob→k≠j→ ∃ ob0,look σ k=some ob0∧ob=stripO j ob0:=fun k ob hl hne=>by
    rw [zar,Option.map_eq_some_iff] at hl
    obtain ⟨o',h1,h2⟩:=hl
    rw [if_neg hne] at h2
    exact ⟨o',h1,h2.symm⟩
  refine ⟨⟨⟨hst.keep.os.trans hr.st.keep.os,hst.keep.tape.trans hr.st.keep.tape,hst.keep.output.trans hr.st.keep.output,Nat.le_trans hr.st.keep.size hst.keep.size,fun b hb hlt=>?_⟩,hst.lt,hr.st.nlt,fun b i hs=>?_,⟨fun b i hs=>hst.mon.1 b i (hr.st.mon.1 b i hs),fun b i x hs hc=>hk b i x (hr.st.mon.1 b i hs) (hr.st.mon.2 b i x hs hc)⟩,fun k ob hl=>?_,fun k k' ob ob' hl hl' hne b hb=>?_⟩,fun t y hy=>?_,hr.nt,hr.df⟩
  · have hin:b < w.heap.size∧ ∀ p∈gO j e sz l0,¬ fp γ T p.1 p.2 b:=Classical.byContradiction fun h=>hnN b h hb
    exact (hst.keep.block b hin hin.1).trans (hr.st.keep.block b hb hlt)
  · rcases hS' b i hs with h1|h1
    · exact hr.st.set b i h1
    · exact .inr (hnN b h1)
  · rcases happ k ob hl with h1 | ⟨h1,h2⟩
    · exact hRO1 k ob h1
    · obtain ⟨hkj,_⟩:=hnot k h1
      obtain ⟨ob0,h3,rfl⟩:=cut k ob h2 hkj
      have h4:=(hr.st.obj k ob0 h3).strip (γ':=γ) (T':=setK T j (T' j)) hkj (fun _ _=>rfl) (fun i hi=>zaz _ _ _ _ hi)
      refine h4.kept hst.mon.1 hk fun b hb=>?_
      have hb':=fp.strip (γ:=γ) (T:=T) hkj (fun _ _=>rfl) (fun i hi=>zaz _ _ _ _ hi) hb
      have h5:=hold k ob0 h1 h3 b hb'
      exact ⟨hst.keep.block b h5 h5.1,fun i hs=>(hS' b i hs).resolve_right fun h=>h h5⟩
  · rcases happ k ob hl with h1 | ⟨h1,h2⟩<;>rcases happ k' ob' hl' with h1' | ⟨h1',h2'⟩
    · exact fun hb'=>hst.dis k k' ob ob' h1 h1' hne b (hfp1 k ob h1 b hb).2 (hfp1 k' ob' h1' b hb').2
    · obtain ⟨hkj,_⟩:=hnot k' h1'
      obtain ⟨ob0,h3,rfl⟩:=cut k' ob' h2' hkj
      exact fun hb'=>(hfp1 k ob h1 b hb).1 (hold k' ob0 h1' h3 b (fp.strip (γ:=γ) (T:=T) hkj (fun _ _=>rfl) (fun i hi=>zaz _ _ _ _ hi) hb'))
    · obtain ⟨hkj,_⟩:=hnot k h1
      obtain ⟨ob0,h3,rfl⟩:=cut k ob h2 hkj
      exact fun hb'=>(hfp1 k' ob' h1' b hb').1 (hold k ob0 h1 h3 b (fp.strip (γ:=γ) (T:=T) hkj (fun _ _=>rfl) (fun i hi=>zaz _ _ _ _ hi) hb))
    · obtain ⟨hkj,_⟩:=hnot k h1
      obtain ⟨hkj',_⟩:=hnot k' h1'
      obtain ⟨ob0,h3,rfl⟩:=cut k ob h2 hkj
      obtain ⟨ob0',h3',rfl⟩:=cut k' ob' h2' hkj'
      exact fun hb'=>hr.st.dis k k' ob0 ob0' h3 h3' hne b (fp.strip (γ:=γ) (T:=T) hkj (fun _ _=>rfl) (fun i hi=>zaz _ _ _ _ hi) hb) (fp.strip (γ:=γ) (T:=T) hkj' (fun _ _=>rfl) (fun i hi=>zaz _ _ _ _ hi) hb')
  · rw [zco,Option.map_eq_some_iff] at hy
    obtain ⟨y',h1,rfl⟩:=hy
    exact ((hr.fr t y' h1).strip (γ':=γ) (T':=setK T j (T' j)) (fun _ _=>rfl) (fun i hi=>zaz _ _ _ _ hi)).mono hst.mon.1 hk
def argG (x:VV):VV:=match data1 x with
  | some y=>y
  | none=>x
def argsG (fr:Fr):List Operand→Option (List VV)
  | []=>some []
  | x :: l=>match ev fr x,argsG fr l with
    | some y,some m=>some (argG y :: m)
    | _,_=>none
def ArgsGR (γ:Nat→Nat) (T:Nat→Value) (S:Nat→Nat→Prop) (w:World) (args:List VV) (vs:List Value):Prop:=vs.length=args.length∧ ∀ (i:Nat) (y:VV) (v:Value),args[i]?=some y→vs[i]?=some v→RV γ T S w y v
theorem zkg {x:VV} {v:Value} (h:RV γ T S w x v):RV γ T S w (argG x) v:=by
  unfold argG
  split
  · rename_i y hy;exact zbC hy h γ T
  · exact h
theorem zbU (hr:Rel X γ T S w fr σ a):∀ {l:List Operand} {m:List VV},argsG fr l=some m→ArgsGR γ T S w m (l.map a.eval)
  | [],m,h=>by simp only [argsG,Option.some.injEq] at h;subst h;exact ⟨rfl,fun i y v hy=>by simp at hy⟩
  | x :: l,m,h=>by
    simp only [argsG] at h
    split at h
    · rename_i y m' hy hm
      injection h with h;subst h
      obtain ⟨h1,h2⟩:=zbU hr hm
      refine ⟨by simpa using h1,fun i y' v hy' hv=>?_⟩
      cases i with
      | zero =>
        simp only [List.getElem?_cons_zero,Option.some.injEq,List.map_cons] at hy' hv
        subst hy';subst hv
        exact zkg (zae hr hy)
      | succ i=>exact h2 i y' v (by simpa using hy') (by simpa using hv)
    · cases h
theorem ArgsGR.app {x1 x2:List VV} {v1 v2:List Value} (h:ArgsGR γ T S w x1 v1) (k:ArgsGR γ T S w x2 v2):ArgsGR γ T S w (x1++x2) (v1++v2) :=
  ⟨by rw [List.length_append,List.length_append,h.1,k.1],fun j y v hy hv=>by
    by_cases hj:j < x1.length
    · rw [List.getElem?_append_left hj] at hy
      rw [List.getElem?_append_left (by rw [h.1];exact hj)] at hv
      exact h.2 j y v hy hv
    · rw [List.getElem?_append_right (by omega)] at hy
      rw [List.getElem?_append_right (by rw [h.1];omega),h.1] at hv
      exact k.2 _ y v hy hv⟩
def calleeG (fr:Fr) (x:Operand):Option (FuncId × List VV) :=
  match ev fr x with
  | some (.one (.fn f caps))=>some (f,caps.map fun k=>.one (.po k 0))
  | some (.one (.d (.fn f caps)))=>some (f,caps.map fun q=>.one (.d (.pi q)))
  | _=>none
theorem zbR (hr:Rel X γ T S w fr σ a) {x:Operand} {f:FuncId} {cs:List VV} (h:calleeG fr x=some (f,cs)):∃ us:List Value,a.eval x=.func (.func f) #[] us.toArray∧ArgsGR γ T S w cs us:=by
  unfold calleeG at h
  split at h
  · rename_i g caps hx
    simp only [Option.some.injEq,Prod.mk.injEq] at h
    obtain ⟨rfl,rfl⟩:=h
    have:=zae hr hx
    cases this with
    | one hv =>
      refine ⟨_,hv,by simp,fun i y v hy hv=>?_⟩
      rw [List.getElem?_map,Option.map_eq_some_iff] at hy hv
      obtain ⟨k,hk,rfl⟩:=hy
      obtain ⟨k',hk',rfl⟩:=hv
      rw [hk] at hk';injection hk' with hk';subst hk'
      exact .one rfl
  · rename_i g caps hx
    simp only [Option.some.injEq,Prod.mk.injEq] at h
    obtain ⟨rfl,rfl⟩:=h
    have:=zae hr hx
    generalize a.eval x=u at this
    cases this with
    | one hv =>
      cases hv with
      | fn _ _ us len val =>
        refine ⟨us,rfl,by simp [len],fun j y v hy hv=>?_⟩
        rw [List.getElem?_map,Option.map_eq_some_iff] at hy
        obtain ⟨q,hq,rfl⟩:=hy
        exact .one (val j q v hq hv)
  · cases h
theorem Rel.toG {j:Nat} {e:TypeId} {sz:Nat} {l0:Cells} (hr:Rel X γ T S w fr σ a) (hσ:∀ p∈gO j e sz l0,look σ p.1=some p.2):St (ictx X.P w (fun b=>b < w.heap.size∧ ∀ p∈gO j e sz l0,¬ fp γ T p.1 p.2 b) S (pinOf l0 γ)) γ T S w (gO j e sz l0) :=
  have hl:∀ k ob,look (gO j e sz l0) k=some ob→look σ k=some ob:=fun k ob hk=>hσ (k,ob) (zaD hk)
  ⟨.refl _ _,hr.st.lt,fun b hb=>hb.1,fun b o hs=>.inl hs,⟨fun _ _ hs=>hs,fun _ _ _ _ h=>h⟩,fun k ob hk=>(hr.st.obj k ob (hl k ob hk)).cx (fun b hb hN=>hN.2 (k,ob) (zaD hk) hb) (fun b hb=>by
    have hb:pinOf l0 γ k=some b:=hb
    unfold pinOf at hb
    split at hb
    · injection hb
    · cases hb),fun k k' o o' hk hk'=>hr.st.dis k k' o o' (hl k o hk) (hl k' o' hk')⟩
variable {ops:Array Oper} {rest:List Oper} {Q:Fr→Obs→Prop} {d:Nat}
theorem zmv {f:FuncId} {x:Operand} {xs:Array Operand} {ats:Array TypeId} {args cs:List VV} {j:Nat} {e:TypeId} {sz:Nat} {l0 l1:Cells} {y:VV} (hw:wantA ops o fr=some true) (hdst:o.dst=some d) (hd:Nat.blt d X.nt=true) (ho:o.op=.call { callee:=.value x,args:=xs,argTypes:=ats }) (hx:calleeG fr x=some (f,cs))
    (ha:argsG fr xs.toList=some args) (hc:CallsG X.P f (args++cs) j e sz l0 y l1) (hσ:∀ p∈gO j e sz l0,look σ p.1=some p.2) (hk1:∀ k,inK l1 k=inK l0 k) (hj:inK l0 j=false) (hok:(l1.all fun p=>okC j l1 p.2.2)=true)
    (h:RL X ops rest ((d,y) :: stripF j fr) (gO j e sz l1++stripS j σ) Q):RL X ops (o :: rest) fr σ Q :=
  ⟨fun γ T S w a K hr hk=>wpList_step fun K' hK=>by
    obtain ⟨us,hu1,hu2⟩:=zbR hr hx
    rw [if_pos (zam hr hw)]
    unfold Oper.wp
    rw [zbN ho hu1,hc.ent]
    refine (hc.out _ γ T S w _ (hr.toG hσ) ((zbU hr ha).app hu2)).mono fun ex w' he=>?_
    obtain ⟨v,γ',T',S',rfl,hst,hv⟩:=he
    refine hK _ _ (h.out γ (setK T j (T' j)) S' w' _ K ?_ hk)
    rw [hdst]
    exact (hr.backG hσ hst hk1 hj hok).put (dst:=some d) hd (hv _ _)⟩
def rk (k k' i:Nat):Nat:=if i=k then k' else i
def renC (k k':Nat):C→C
  | .d x=>.d x
  | .own i r=>.own (rk k k' i) r
  | .po i o=>.po (rk k k' i) o
  | .mr i=>.mr (rk k k' i)
  | .que i sz tot r=>.que (rk k k' i) sz tot r
  | .fn f caps=>.fn f (caps.map (rk k k'))
  | .win i lo n c sz=>.win (rk k k' i) lo n c sz
  | .pe i m o sz=>.pe (rk k k' i) m o sz
  | .any=>.any
def renV (k k':Nat):VV→VV
  | .one c=>.one (renC k k' c)
  | .dat cs=>.dat cs
  | .tup []=>.tup []
  | .ag cs=>.ag (cs.map (renC k k'))
  | _=>.junk
def renO (k k':Nat):Ob→Ob
  | .cell ty c=>.cell ty (renC k k' c)
  | .obj ty cs=>.obj ty (cs.map (renC k k'))
  | ob=>ob
def renS (k k':Nat) (σ:Obs):Obs:=(σ.filter fun p=>!(p.1==k')).map fun p=>(rk k k' p.1,renO k k' p.2)
def renF (k k':Nat) (fr:Fr):Fr:=fr.map fun p=>(p.1,renV k k' p.2)
theorem RC.ren {k k':Nat} (hg:γ k'=γ k) (ht:T k'=T k) {c:C} {v:Value} (h:RC γ T S w c v):RC γ T S w (renC k k' c) v:=by
  have g:∀ i,γ (rk k k' i)=γ i:=fun i=>by unfold rk;by_cases e:i=k;rw [if_pos e,e,hg];rw [if_neg e]
  have t:∀ i,T (rk k k' i)=T i:=fun i=>by unfold rk;by_cases e:i=k;rw [if_pos e,e,ht];rw [if_neg e]
  cases c with
  | d x=>exact h
  | own i r=>exact ⟨h.1,(t i).trans h.2⟩
  | po i o=>simp only [renC,RC,g] at h ⊢;exact h
  | mr i=>simp only [renC,RC,g] at h ⊢;exact h
  | que i sz tot r=>simp only [renC,RC,t] at h ⊢;exact h
  | fn f caps =>
    simp only [renC,RC,List.map_map] at h ⊢
    rw [h];congr 2
    apply List.map_congr_left
    intro i _
    simp only [Function.comp,g]
  | win i lo n c sz=>simp only [renC,RC,g] at h ⊢;exact h
  | pe i m o sz=>simp only [renC,RC,g] at h ⊢;exact h
  | any=>exact h
theorem RV.ren {k k':Nat} (hg:γ k'=γ k) (ht:T k'=T k) {x:VV} {v:Value} (h:RV γ T S w x v):RV γ T S w (renV k k' x) v:=by
  cases x with
  | one c=>cases h with|one h=>exact .one (h.ren hg ht)
  | dat cs=>exact h
  | tup l =>
    cases l with
    | nil=>exact h
    | cons _ _=>exact .junk _
  | ag cs =>
    cases h with
    | ag _ us len val =>
      refine .ag _ us (by rw [List.length_map];exact len) fun j c hc=>?_
      rw [List.getElem?_map,Option.map_eq_some_iff] at hc
      obtain ⟨c0,h1,rfl⟩:=hc
      obtain ⟨u,h2,h3⟩:=val j c0 h1
      exact ⟨u,h2,h3.ren hg ht⟩
  | junk=>exact .junk _
theorem RO.ren_obj {k k' i:Nat} (hg:γ k'=γ k) (ht:T k'=T k) {ty:TypeId} {cs:List C} (h:RO X γ T S w i (.obj ty cs)):RO X γ T S w i (.obj ty (cs.map (renC k k'))):=by
  obtain ⟨us,h1,⟨h2,h3⟩,h4⟩:=h
  refine ⟨us,h1,⟨by rw [List.length_map];exact h2,fun i c hc=>?_⟩,h4⟩
  rw [List.getElem?_map,Option.map_eq_some_iff] at hc
  obtain ⟨c0,q1,rfl⟩:=hc
  obtain ⟨u,q2,q3,q4⟩:=h3 i c0 q1
  exact ⟨u,q2,q3.ren hg ht,q4⟩
theorem RO.at_ {i j:Nat} (hg:γ i=γ j) (hp:∀ b,X.pin i=some b→γ j=b) {ob:Ob} (hb:boxy ob=true) (h:RO X γ T S w j ob):RO X γ T S w i ob:=by
  cases ob with
  | box ty cs=>obtain ⟨us,q1,q2,q3,q4⟩:=h;exact ⟨us,by rw [hg];exact q1,q2,by rw [hg];exact q3,by rw [hg];exact q4⟩
  | cell ty c=>obtain ⟨u,q1,q2,q3,q4,q5,q6⟩:=h;exact ⟨u,by rw [hg];exact q1,q2,q3,by rw [hg];exact q4,by rw [hg];exact q5,fun b hb=>by rw [hg];exact hp b hb⟩
  | arr e sz rows=>obtain ⟨us,q1,q2,q3,q4,q5,q6⟩:=h;exact ⟨us,by rw [hg];exact q1,q2,q3,by rw [hg];exact q4,by rw [hg];exact q5,fun b hb=>by rw [hg];exact hp b hb⟩
  | obj ty cs=>obtain ⟨us,q1,q2,q3,q4,q5⟩:=h;exact ⟨us,by rw [hg];exact q1,q2,by rw [hg];exact q3,by rw [hg];exact q4,fun b hb=>by rw [hg];exact hp b hb⟩
  | mp es=>obtain ⟨ms,cl,q1,q2,q3,q4,q5⟩:=h;exact ⟨ms,cl,by rw [hg];exact q1,q2,by rw [hg];exact q3,by rw [hg];exact q4,fun b hb=>by rw [hg];exact hp b hb⟩
  | tok e sz=>cases hb
  | junk=>trivial
theorem RO.pin_ {i:Nat} {ob:Ob} (hb:boxy ob=true) (hx:∀ ty cs,ob≠.box ty cs) (h:RO X γ T S w i ob):∀ b,X.pin i=some b→γ i=b:=by
  cases ob with
  | box ty cs=>exact absurd rfl (hx ty cs)
  | cell ty c=>obtain ⟨u,q1,q2,q3,q4,q5,q6⟩:=h;exact q6
  | arr e sz rows=>obtain ⟨us,q1,q2,q3,q4,q5,q6⟩:=h;exact q6
  | obj ty cs=>obtain ⟨us,q1,q2,q3,q4,q5⟩:=h;exact q5
  | mp es=>obtain ⟨ms,cl,q1,q2,q3,q4,q5⟩:=h;exact q5
  | tok e sz=>cases hb
  | junk=>cases hb
theorem Rel.ren (k k':Nat) (hr:Rel X γ T S w fr σ a) (hp:X.pin k'=none):Rel X (setK γ k' (γ k)) (setK T k' (T k)) S w (renF k k' (stripF k' fr)) (renS k k' (stripS k' σ)) a:=by
  by_cases hkk:k'=k
  · subst hkk
    have h1:=hr.upd (γ':=setK γ k' (γ k')) (T':=setK T k' (T k')) k' (fun i hi=>zaz _ _ _ _ hi) (fun i hi=>zaz _ _ _ _ hi)
    obtain ⟨⟨keep,lt,nlt,set,mon,obj,dis⟩,hfr,hn,hd⟩:=h1
    have hx:∀ i ob,look (renS k' k' (stripS k' σ)) i=some ob→i≠k'∧ ∃ ob0,look (stripS k' σ) i=some ob0∧ob=renO k' k' ob0:=fun i ob=>by
      generalize stripS k' σ=s
      unfold renS
      induction s with
      | nil=>intro h;simp [look] at h
      | cons p s ih =>
        intro h
        rw [List.filter_cons] at h
        split at h
        · rename_i hne
          simp only [Bool.not_eq_true',beq_eq_false_iff_ne,ne_eq] at hne
          simp only [List.map_cons,look] at h
          have hrk:rk k' k' p.1=p.1:=by unfold rk;rw [if_neg hne]
          rw [hrk] at h
          split at h
          · rename_i e;injection h with h;subst e;exact ⟨hne,p.2,by obtain ⟨a,b⟩:=p;simp [look],h.symm⟩
          · rename_i e
            obtain ⟨g1,ob0,g2,g3⟩:=ih h
            exact ⟨g1,ob0,by obtain ⟨a,b⟩:=p;simp only [look];rw [if_neg e];exact g2,g3⟩
        · rename_i hne
          simp only [Bool.not_eq_true',beq_eq_false_iff_ne,ne_eq,Decidable.not_not] at hne
          obtain ⟨g1,ob0,g2,g3⟩:=ih h
          exact ⟨g1,ob0,by obtain ⟨a,b⟩:=p;simp only at hne;subst hne;simp only [look];rw [if_neg (Ne.symm g1)];exact g2,g3⟩
    have hob:∀ i ob0,look (stripS k' σ) i=some ob0→RO X (setK γ k' (γ k')) (setK T k' (T k')) S w i (renO k' k' ob0):=fun i ob0 h=>by
      have h2:=obj i ob0 h
      cases ob0 with
      | cell ty c=>obtain ⟨u,q1,q2,q3⟩:=h2;exact ⟨u,q1,q2.ren rfl rfl,q3⟩
      | box ty cs=>exact h2
      | tok e sz=>exact h2
      | arr e sz rows=>exact h2
      | obj ty cs=>exact h2.ren_obj rfl rfl
      | mp es=>exact h2
      | junk=>exact h2
    have hfp:∀ i ob0 b,fp (setK γ k' (γ k')) (setK T k' (T k')) i (renO k' k' ob0) b→fp (setK γ k' (γ k')) (setK T k' (T k')) i ob0 b:=fun i ob0 b h=>by cases ob0<;>exact h
    refine ⟨⟨keep,lt,nlt,set,mon,fun i ob h=>?_,fun i i' o o' hi hi' hne b hb=>?_⟩,fun t y hy=>?_,hn,hd⟩
    · obtain ⟨_,ob0,g2,rfl⟩:=hx i ob h;exact hob i ob0 g2
    · obtain ⟨_,ob0,g2,rfl⟩:=hx i o hi
      obtain ⟨_,ob0',g2',rfl⟩:=hx i' o' hi'
      exact fun hb'=>dis i i' ob0 ob0' g2 g2' hne b (hfp _ _ _ hb) (hfp _ _ _ hb')
    · have:∀ (f:Fr),look (renF k' k' f) t=some y→ ∃ y0,look f t=some y0∧y=renV k' k' y0:=fun f=>by
        unfold renF
        induction f with
        | nil=>intro h;simp [look] at h
        | cons p f ih =>
          intro h
          obtain ⟨a,b⟩:=p
          simp only [List.map_cons,look] at h ⊢
          split at h
          · rename_i e;rw [if_pos e];injection h with h;exact ⟨b,rfl,h.symm⟩
          · rename_i e;rw [if_neg e];exact ih h
      obtain ⟨y0,g1,rfl⟩:=this _ hy
      exact (hfr t y0 g1).ren rfl rfl
  · have h1:=hr.upd (γ':=setK γ k' (γ k)) (T':=setK T k' (T k)) k' (fun i hi=>zaz _ _ _ _ hi) (fun i hi=>zaz _ _ _ _ hi)
    have eg:setK γ k' (γ k) k'=setK γ k' (γ k) k:=by rw [zaq,zaz _ _ _ _ (Ne.symm hkk)]
    have et:setK T k' (T k) k'=setK T k' (T k) k:=by rw [zaq,zaz _ _ _ _ (Ne.symm hkk)]
    revert h1 eg et
    generalize setK γ k' (γ k)=γ2
    generalize setK T k' (T k)=T2
    intro h1 eg et
    obtain ⟨⟨keep,lt,nlt,set,mon,obj,dis⟩,hfr,hn,hd⟩:=h1
    have hx:∀ i ob,look (renS k k' (stripS k' σ)) i=some ob→ ∃ i0 ob0,i=rk k k' i0∧i0≠k'∧look (stripS k' σ) i0=some ob0∧ob=renO k k' ob0:=fun i ob=>by
      generalize stripS k' σ=s
      unfold renS
      induction s with
      | nil=>intro h;simp [look] at h
      | cons p s ih =>
        intro h
        obtain ⟨a,b⟩:=p
        rw [List.filter_cons] at h
        have tail:(∃ i0 ob0,i=rk k k' i0∧i0≠k'∧look s i0=some ob0∧ob=renO k k' ob0)→(a=k'∨i≠rk k k' a)→ ∃ i0 ob0,i=rk k k' i0∧i0≠k'∧look ((a,b) :: s) i0=some ob0∧ob=renO k k' ob0:=by
          rintro ⟨i0,ob0,g1,g2,g3,g4⟩ hne
          refine ⟨i0,ob0,g1,g2,?_,g4⟩
          simp only [look]
          rw [if_neg]
          · exact g3
          · rintro rfl
            rcases hne with h|h
            · exact g2 h
            · exact h g1
        split at h
        · rename_i hne
          simp only [Bool.not_eq_true',beq_eq_false_iff_ne,ne_eq] at hne
          simp only [List.map_cons,look] at h
          split at h
          · rename_i e;injection h with h;exact ⟨a,b,e.symm,hne,by simp [look],h.symm⟩
          · rename_i e;exact tail (ih h) (.inr fun h=>e h.symm)
        · rename_i hne
          simp only [Bool.not_eq_true',beq_eq_false_iff_ne,ne_eq,Decidable.not_not] at hne
          exact tail (ih h) (.inl hne)
    have g:∀ i,γ2 (rk k k' i)=γ2 i:=fun i=>by unfold rk;by_cases e:i=k;rw [if_pos e,e,eg];rw [if_neg e]
    have t:∀ i,T2 (rk k k' i)=T2 i:=fun i=>by unfold rk;by_cases e:i=k;rw [if_pos e,e,et];rw [if_neg e]
    have hob:∀ i ob0,look (stripS k' σ) i=some ob0→RO X γ2 T2 S w (rk k k' i) (renO k k' ob0):=fun i ob0 h=>by
      have h2:=obj i ob0 h
      cases ob0 with
      | cell ty c =>
        obtain ⟨u,q1,q2,q3,q4,q5,q6⟩:=h2
        refine ⟨u,by rw [g];exact q1,q2.ren eg et,q3,by rw [g];exact q4,by rw [g];exact q5,fun b hb=>?_⟩
        rw [g]
        unfold rk at hb
        split at hb
        · rw [hp] at hb;cases hb
        · exact q6 b hb
      | box ty cs=>obtain ⟨us,q1,q2,q3,q4⟩:=h2;exact ⟨us,by rw [g];exact q1,q2,by rw [g];exact q3,by rw [g];exact q4⟩
      | tok e sz=>simp only [renO,RO,t] at h2 ⊢;exact h2
      | arr e sz rows=>exact h2.at_ (g i) (fun b hb=>by
          unfold rk at hb
          split at hb
          · rw [hp] at hb;cases hb
          · exact h2.pin_ rfl (fun _ _ h=>by cases h) b hb) rfl
      | obj ty cs=>exact (h2.ren_obj eg et).at_ (g i) (fun b hb=>by
          unfold rk at hb
          split at hb
          · rw [hp] at hb;cases hb
          · exact h2.pin_ rfl (fun _ _ h=>by cases h) b hb) rfl
      | mp es=>exact h2.at_ (g i) (fun b hb=>by
          unfold rk at hb
          split at hb
          · rw [hp] at hb;cases hb
          · exact h2.pin_ rfl (fun _ _ h=>by cases h) b hb) rfl
      | junk=>trivial
    have hfp:∀ i ob0 b,fp γ2 T2 (rk k k' i) (renO k k' ob0) b→fp γ2 T2 i ob0 b:=fun i ob0 b h=>by
      cases ob0 with
      | cell ty c=>simpa only [renO,fp,g] using h
      | box ty cs=>simpa only [renO,fp,g] using h
      | tok e sz=>simpa only [renO,fp,t] using h
      | arr e sz rows=>simpa only [renO,fp,g] using h
      | obj ty cs=>simpa only [renO,fp,g] using h
      | mp es=>simpa only [renO,fp,g] using h
      | junk=>exact h.elim
    refine ⟨⟨keep,lt,nlt,set,mon,fun i ob h=>?_,fun i i' o o' hi hi' hne b hb=>?_⟩,fun t y hy=>?_,hn,hd⟩
    · obtain ⟨i0,ob0,rfl,_,g2,rfl⟩:=hx i ob h;exact hob i0 ob0 g2
    · obtain ⟨i0,ob0,rfl,_,g2,rfl⟩:=hx i o hi
      obtain ⟨i0',ob0',rfl,_,g2',rfl⟩:=hx i' o' hi'
      exact fun hb'=>dis i0 i0' ob0 ob0' g2 g2' (fun e=>hne (by rw [e])) b (hfp _ _ _ hb) (hfp _ _ _ hb')
    · have:∀ (f:Fr),look (renF k k' f) t=some y→ ∃ y0,look f t=some y0∧y=renV k k' y0:=fun f=>by
        unfold renF
        induction f with
        | nil=>intro h;simp [look] at h
        | cons p f ih =>
          intro h
          obtain ⟨a,b⟩:=p
          simp only [List.map_cons,look] at h ⊢
          split at h
          · rename_i e;rw [if_pos e];injection h with h;exact ⟨b,rfl,h.symm⟩
          · rename_i e;rw [if_neg e];exact ih h
      obtain ⟨y0,g1,rfl⟩:=this _ hy
      exact (hfr t y0 g1).ren eg et
theorem zqm {c:Code} {QQ:Exit→Fr→Obs→Prop} (k k':Nat) (hp:X.pin k'=none) (h:W X c (renF k k' (stripF k' fr)) (renS k k' (stripS k' σ)) QQ):W X c fr σ QQ :=
  ⟨fun _ _ S w a hr=>h.out _ _ S w a (hr.ren k k' hp)⟩
theorem zpz (k k':Nat) (hp:X.pin k'=none) (h:RL X ops rest (renF k k' (stripF k' fr)) (renS k k' (stripS k' σ)) Q):RL X ops rest fr σ Q :=
  ⟨fun _ _ S w a K hr hk=>h.out _ _ S w a K (hr.ren k k' hp) hk⟩
end
end Go.Proofs.YtiplihojmfbjkaaGreat
