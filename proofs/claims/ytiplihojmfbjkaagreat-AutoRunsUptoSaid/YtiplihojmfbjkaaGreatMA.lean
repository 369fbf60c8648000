/- Contracts on functions that write objects of their caller's: variables,structs,maps,slices;new objects may come back. -/
import Derived.Test.YtiplihojmfbjkaaGreatWI
namespace Go.Proofs.YtiplihojmfbjkaaGreat
open Go.RowKit
section
variable {X:Ctx} {γ γ' γ2:Nat→Nat} {T T' T2:Nat→Value} {S S':Nat→Nat→Prop} {w w':World} {fr:Fr} {σ σ0 σ1:Obs} {a:Act} {o:Oper}
def pinny:Ob→Bool
  | .cell _ _ | .arr _ _ _ | .obj _ _ | .mp _=>true
  | _=>false
theorem zgb {ob:Ob} (h:pinny ob=true):boxy ob=true:=by cases ob<;>first|rfl|cases h
theorem zdB {k:Nat} {ob:Ob} (h:pinny ob=true) (ho:RO X γ T S w k ob):∀ b,X.pin k=some b→γ k=b :=
  ho.pin_ (zgb h) (fun _ _ e=>by subst e;cases h)
theorem RO.cx2 {X':Ctx} {k:Nat} {ob:Ob} (h:RO X γ T S w k ob) (hN:∀ b,fp γ T k ob b→¬ X'.N b) (hp:pinny ob=true→ ∀ b,X'.pin k=some b→γ k=b):RO X' γ T S w k ob:=by
  cases ob with
  | box ty cs=>obtain ⟨us,h1,h2,h3,_⟩:=h;exact ⟨us,h1,h2,h3,hN _ rfl⟩
  | cell ty c=>obtain ⟨u,h1,h2,h3,h4,_,_⟩:=h;exact ⟨u,h1,h2,h3,h4,hN _ rfl,hp rfl⟩
  | tok e sz=>obtain ⟨n,xs,h1,h2⟩:=h;exact ⟨n,xs,h1,fun g hg=>⟨hN g hg,(h2 g hg).2⟩⟩
  | arr e sz rows=>obtain ⟨us,h1,h2,h3,h4,_,_⟩:=h;exact ⟨us,h1,h2,h3,h4,hN _ rfl,hp rfl⟩
  | obj ty cs=>obtain ⟨us,h1,h2,h3,_,_⟩:=h;exact ⟨us,h1,h2,h3,hN _ rfl,hp rfl⟩
  | mp es=>obtain ⟨ms,cl,h1,h2,h3,_,_⟩:=h;exact ⟨ms,cl,h1,h2,h3,hN _ rfl,hp rfl⟩
  | junk=>trivial
def pinM (σ0:Obs) (γ:Nat→Nat) (k:Nat):Option Nat:=match look σ0 k with
  | some ob=>if pinny ob=true then some (γ k) else none
  | none=>none
def keyIn (l:Obs) (k:Nat):Bool:=(look l k).isSome
def pinKey (l:Obs) (k:Nat):Bool:=match look l k with
  | some ob=>pinny ob
  | none=>false
def refsC (P R:Nat→Bool):C→Bool
  | .d _=>true
  | .own i _=>R i
  | .po k _=>P k
  | .mr k=>P k
  | .que i _ _ _=>R i
  | .fn _ caps=>caps.all P
  | .win k _ _ _ _=>P k
  | .pe k _ _ _=>P k
  | .any=>true
def refsV (P R:Nat→Bool):VV→Bool
  | .one c=>refsC P R c
  | .dat _=>true
  | .tup l=>l.all fun x=>match x with | .one c=>refsC P R c | .dat _=>true | .ag cs=>cs.all (refsC P R) | .tup _=>false | .junk=>true
  | .ag cs=>cs.all (refsC P R)
  | .junk=>true
def refsO (P R:Nat→Bool):Ob→Bool
  | .cell _ c=>refsC P R c
  | .obj _ cs=>cs.all (refsC P R)
  | _=>true
theorem RC.refs {P R:Nat→Bool} (hg:∀ k,P k=true→γ2 k=γ' k) (ht:∀ k,R k=true→T2 k=T' k) {c:C} (hc:refsC P R c=true) {v:Value} (h:RC γ' T' S w c v):RC γ2 T2 S w c v:=by
  cases c with
  | d x=>exact h
  | own i r=>exact ⟨h.1,(ht i hc).trans h.2⟩
  | po k o=>simp only [refsC] at hc;simp only [RC,hg k hc] at h ⊢;exact h
  | mr k=>simp only [refsC] at hc;simp only [RC,hg k hc] at h ⊢;exact h
  | que i sz tot r=>simp only [refsC] at hc;simp only [RC,ht i hc] at h ⊢;exact h
  | fn f caps =>
    simp only [refsC,List.all_eq_true] at hc
    simp only [RC] at h ⊢
    rw [h];congr 2
    apply List.map_congr_left
    intro k hk
    rw [hg k (hc k hk)]
  | win k lo n c sz=>simp only [refsC] at hc;simp only [RC,hg k hc] at h ⊢;exact h
  | pe k i o sz=>simp only [refsC] at hc;simp only [RC,hg k hc] at h ⊢;exact h
  | any=>exact h
theorem RV.refs {P R:Nat→Bool} (hg:∀ k,P k=true→γ2 k=γ' k) (ht:∀ k,R k=true→T2 k=T' k) {x:VV} (hc:refsV P R x=true) {v:Value} (h:RV γ' T' S w x v):RV γ2 T2 S w x v:=by
  have ag:∀ {cs:List C} {v:Value},cs.all (refsC P R)=true→RV γ' T' S w (.ag cs) v→RV γ2 T2 S w (.ag cs) v:=fun {cs v} hc h=>by
    cases h with
    | ag _ us len val=>exact .ag cs us len fun j c hj=>let ⟨u,h1,h2⟩:=val j c hj;⟨u,h1,h2.refs hg ht (List.all_eq_true.1 hc c (List.mem_of_getElem? hj))⟩
  cases x with
  | one c=>cases h with|one h=>exact .one (h.refs hg ht hc)
  | dat cs=>cases h with|dat h=>exact .dat h
  | ag cs=>exact ag hc h
  | junk=>exact .junk _
  | tup l =>
    cases h with
    | tup _ us len val =>
      refine .tup l us len fun j x u hx hu=>?_
      have h1:=val j x u hx hu
      have h2:=List.all_eq_true.1 hc x (List.mem_of_getElem? hx)
      cases x with
      | one c=>cases h1 with|one h1=>exact .one (h1.refs hg ht h2)
      | dat cs=>cases h1 with|dat h1=>exact .dat h1
      | ag cs=>exact ag h2 h1
      | tup m=>cases h2
      | junk=>exact .junk _
theorem RO.refs {P R:Nat→Bool} (hg:∀ k,P k=true→γ2 k=γ' k) (ht:∀ k,R k=true→T2 k=T' k) {k:Nat} {ob:Ob} (hk:P k=true) (hkt:boxy ob=true∨R k=true) (hc:refsO P R ob=true) (h:RO X γ' T' S w k ob):RO X γ2 T2 S w k ob:=by
  cases ob with
  | box ty cs=>simp only [RO,hg k hk] at h ⊢;exact h
  | cell ty c=>obtain ⟨u,q1,q2,q3,q4⟩:=h;simp only [RO,hg k hk];exact ⟨u,q1,q2.refs hg ht hc,q3,q4⟩
  | tok e sz =>
    have hR:R k=true:=hkt.resolve_left (fun h=>by cases h)
    simp only [RO,ht k hR] at h ⊢;exact h
  | arr e sz rows=>simp only [RO,hg k hk] at h ⊢;exact h
  | obj ty cs =>
    obtain ⟨us,q1,⟨q2,q3⟩,q4⟩:=h
    simp only [RO,hg k hk]
    exact ⟨us,q1,⟨q2,fun j c hj=>let ⟨u,h1,h2,h3⟩:=q3 j c hj;⟨u,h1,h2.refs hg ht (List.all_eq_true.1 hc c (List.mem_of_getElem? hj)),h3⟩⟩,q4⟩
  | mp es =>
    obtain ⟨ms,cl,q1,⟨q2,q3⟩,q4⟩:=h
    simp only [RO,hg k hk]
    exact ⟨ms,cl,q1,⟨q2,q3⟩,q4⟩
  | junk=>trivial
theorem zn2 {k:Nat} {ob:Ob} {b:Nat} (hg:γ2 k=γ' k) (ht:boxy ob=true∨T2 k=T' k) (h:fp γ2 T2 k ob b):fp γ' T' k ob b:=by
  cases ob with
  | tok e sz=>simpa only [fp,ht.resolve_left (fun h=>by cases h)] using h
  | junk=>exact h.elim
  | _=>simpa only [fp,hg] using h
structure CallsM (P:Program) (f:FuncId) (args:List VV) (σ0:Obs) (x:VV) (σ1:Obs):Prop where
  ent:Enters P f
  out:∀ (N:Nat→Prop) (γ:Nat→Nat) (T:Nat→Value) (S:Nat→Nat→Prop) (w:World) (vs:List Value),St (ictx P w N S (pinM σ0 γ)) γ T S w σ0→ArgsGR γ T S w args vs→
    Calls P f vs.toArray w (fun ex w'=>∃ v γ' T' S',ex=.returned v∧St (ictx P w N S (pinM σ0 γ)) γ' T' S' w' σ1∧RV γ' T' S' w' x v)
def outG (x:VV):VV:=match dataV x with
  | some y=>y
  | none=>x
theorem zgp {x:VV} {v:Value} (h:RV γ T S w x v):RV γ T S w (outG x) v:=by
  unfold outG
  split
  · rename_i y hy;exact zcj hy h γ T
  · exact h
def ret1M (X:Ctx) (fr:Fr) (σ:Obs):ResultVar→Option VV
  | .tmp t=>look fr t
  | .cell p t=>match X.Ty t,look fr p with
    | some i,some (.one (.po k o))=>match look σ k with
      | some (.obj _ cs)=>if i.agg=true∧o=0∧cs.length=i.size then some (.ag cs) else loadC i cs o
      | _=>ret1 X fr σ (.cell p t)
    | _,_=>none
def retLM (X:Ctx) (fr:Fr) (σ:Obs):List ResultVar→Option (List VV)
  | []=>some []
  | r :: l=>match ret1M X fr σ r,retLM X fr σ l with
    | some x,some m=>some (x :: m)
    | _,_=>none
def retVM (X:Ctx) (fr:Fr) (σ:Obs) (rs:List ResultVar):Option VV :=
  match retLM X fr σ rs with
  | some [x]=>some x
  | some l=>some (.tup l)
  | none=>none
theorem zkH {t:TypeId} {i:TyI} (hi:TyOK X.P t i) {cs:List C} {us:List Value} (hr:RCL γ T S w cs us) (b:Nat) (hc:∀ (j:Nat) (u:Value),us[j]?=some u→w.cell? ⟨b,j,none⟩=some u) (ha:i.agg=true) (hl:cs.length=i.size) :
    ∃ v,(loadVar t ⟨b,0,none⟩).run X.P w=.ok v w∧RV γ T S w (.ag cs) v:=by
  obtain ⟨inf,d,h1,h2,h3,h4,h5,h6,_⟩:=hi.get
  have hagg:(isAgg t).run X.P w=.ok true w:=by
    unfold isAgg
    rw [Sem.run_bind,run_underlying h2 w,← ha,← h6]
    cases d<;>rfl
  have hcell:=zdo (w:=w) X.P b 0 us (fun j u hj=>by rw [Nat.zero_add];exact hc j u hj)
  rw [hr.1,hl] at hcell
  refine ⟨.agg us.toArray,?_,.ag cs us hr.1 fun j c hj=>let ⟨u,q1,q2,_⟩:=hr.2 j c hj;⟨u,q1,q2⟩⟩
  simp only [loadVar,Sem.run_bind,hagg,Result.andThen_ok,if_true,zaP h1,Sem.run_pure,h3,hcell]
theorem zjw (hT:Good X) (hr:Rel X γ T S w fr σ a) {r:ResultVar} {x:VV} (h:ret1M X fr σ r=some x):∃ v,(resOne a.tmps r).run X.P w=.ok v w∧RV γ T S w x v:=by
  cases r with
  | tmp t=>exact zek hT hr (r:=.tmp t) h
  | cell p t =>
    simp only [ret1M] at h
    split at h
    · rename_i i k off hi hp
      split at h
      · rename_i ty cs hl
        have hpv:=hr.fr p _ hp
        cases hpv with
        | one hpv =>
          have e:a.tmps.getD p undef=.pointer (some ⟨γ k,off,none⟩):=hpv
          obtain ⟨us,h1,h2,_,_⟩:=hr.st.obj k _ hl
          have hcell:∀ (j:Nat) (u:Value),us[j]?=some u→w.cell? ⟨γ k,j,none⟩=some u:=fun j u hj=>by rw [cell_of_row w _ _ _ _ _ h1];simpa using hj
          split at h
          · rename_i hc
            injection h with h;subst h
            obtain ⟨v,hv1,hv2⟩:=zkH (γ:=γ) (T:=T) (hT t i hi) h2 (γ k) hcell hc.1 hc.2.2
            rw [hc.2.1] at e
            exact ⟨v,by simp only [resOne,e,asAddr,Sem.run_bind,Sem.run_pure,Result.andThen_ok,hv1],hv2⟩
          · obtain ⟨v,hv1,hv2⟩:=zhj (γ:=γ) (T:=T) (hT t i hi) h2 (γ k) off hcell h
            exact ⟨v,by simp only [resOne,e,asAddr,Sem.run_bind,Sem.run_pure,Result.andThen_ok,hv1],hv2⟩
      · exact zek hT hr (r:=.cell p t) h
    · cases h
theorem zdL (hT:Good X) (hr:Rel X γ T S w fr σ a):∀ {l:List ResultVar} {m:List VV},retLM X fr σ l=some m→
    ∃ us:List Value,(l.mapM (resOne a.tmps)).run X.P w=.ok us w∧us.length=m.length∧ ∀ (j:Nat) (x:VV) (u:Value),m[j]?=some x→us[j]?=some u→RV γ T S w x u
  | [],m,h=>by simp only [retLM,Option.some.injEq] at h;subst h;exact ⟨[],by simp,rfl,fun j x u h=>by simp at h⟩
  | r :: l,m,h=>by
    simp only [retLM] at h
    split at h
    · rename_i x m' hx hm
      injection h with h;subst h
      obtain ⟨v,h1,h2⟩:=zjw hT hr hx
      obtain ⟨us,h3,h4,h5⟩:=zdL hT hr hm
      refine ⟨v :: us,?_,by simp [h4],fun j y u hy hu=>?_⟩
      · rw [List.mapM_cons]
        simp only [Sem.run_bind,h1,Result.andThen_ok,h3,Sem.run_pure]
      · cases j with
        | zero=>simp only [List.getElem?_cons_zero,Option.some.injEq] at hy hu;subst hy;subst hu;exact h2
        | succ j=>exact h5 j y u (by simpa using hy) (by simpa using hu)
    · cases h
theorem zdJ (hT:Good X) (hr:Rel X γ T S w fr σ a) {fn:Func} {x:VV} (h:retVM X fr σ fn.results.toList=some x):∃ v,(results fn a.tmps).run X.P w=.ok v w∧RV γ T S w x v:=by
  unfold retVM at h
  split at h
  · rename_i y hl
    injection h with h;subst h
    obtain ⟨us,h1,h2,h3⟩:=zdL hT hr hl
    match us,h2 with
    | [u],_ =>
      refine ⟨u,?_,h3 0 _ u rfl rfl⟩
      rw [zc8,Array.mapM_eq_mapM_toList]
      simp only [Sem.run_bind,Sem.run_map,h1,Result.andThen_ok,Sem.run_pure]
      rfl
  · rename_i l hne hl
    injection h with h;subst h
    obtain ⟨us,h1,h2,h3⟩:=zdL hT hr hl
    refine ⟨.tuple us.toArray,?_,.tup l us h2 h3⟩
    rw [zc8,Array.mapM_eq_mapM_toList]
    simp only [Sem.run_bind,Sem.run_map,h1,Result.andThen_ok,Sem.run_pure]
    have:¬ us.toArray.size=1:=by
      intro he
      have hl1:l.length=1:=by rw [← h2];simpa using he
      match l,hl1 with
      | [z],_=>exact hne z rfl
    rw [dif_neg this]
  · cases h
def EndM (X:Ctx) (rs:List ResultVar) (x:VV) (σ1:Obs):Exit→Fr→Obs→Prop
  | .normal,fr,σ | .ret,fr,σ=>(∃ y,retVM X fr σ rs=some y∧(y=x∨outG y=x))∧ ∀ p∈σ1,look σ p.1=some p.2
  | _,_,_=>False
theorem zcD {k b:Nat} (h:pinM σ0 γ k=some b):b=γ k∧ ∃ ob,look σ0 k=some ob∧pinny ob=true:=by
  unfold pinM at h
  split at h
  · rename_i ob hl
    split at h
    · rename_i hp;injection h with h;exact ⟨h.symm,ob,hl,hp⟩
    · cases h
  · cases h
theorem zav {P:Program} {Ty:TypeId→Option TyI} {f:FuncId} {fn:Func} {c:Code} {args:List VV} {x:VV} (hT:∀ t i,Ty t=some i→TyOK P t i)
    (hf : P.funcs[f]? = some fn) (hname : (fn.name == "runtime.NumGoroutine") = false) (hb : fn.body = some c) (hn : Nat.ble args.length fn.ntmps = true) (hk0 : (σ0.all fun p => Nat.ble fn.ntmps p.1) = true)
    (h:∀ (w0:W0) (S0:Nat→Nat→Prop),(∀ k,pinKey σ0 k=false→w0.pin k=none)→W (ctx P Ty fn.ntmps w0 S0) c (argsF args) σ0 (EndM (ctx P Ty fn.ntmps w0 S0) fn.results.toList x σ1)):CallsM P f args σ0 x σ1:=by
  have hent:Enters P f:=fun xs w=>by
    have h1 : fn.name ≠ "runtime.NumGoroutine" := by simpa using hname
    simp [callFunc,hf,h1,hb]
  refine ⟨hent,fun N γ T S w vs hst ha=>calls_of_wp hf hb ?_⟩
  have hle:vs.length≤fn.ntmps:=by rw [ha.1];exact Nat.le_of_ble_eq_true hn
  have hr:Rel (ctx P Ty fn.ntmps ⟨w,N,pinM σ0 γ,[]⟩ S) γ T S w (argsF args) σ0 { tmps:=vs.toArray++Array.replicate (fn.ntmps - vs.toArray.size) undef,defers:=[] }:=by
    refine ⟨⟨hst.keep,hst.lt,hst.nlt,hst.set,hst.mon,fun k o ho=>(hst.obj k o ho).cx (fun b hb=>(hst.obj k o ho).free hb) (fun b hb=>?_),hst.dis⟩,fun t y hy=>?_,by simp [ctx];omega,rfl⟩
    · have hb:(if k < fn.ntmps then none else pinM σ0 γ k)=some b:=hb
      split at hb
      · cases hb
      · exact (zcD hb).1.symm
    · obtain ⟨_,h2⟩:=zbJ args 0 t y hy
      rw [Nat.sub_zero] at h2
      have hlt:t < vs.length:=by rw [ha.1];exact (List.getElem?_eq_some_iff.1 h2).1
      have hv:vs[t]?=some vs[t]:=List.getElem?_eq_getElem hlt
      have e:(vs.toArray++Array.replicate (fn.ntmps - vs.toArray.size) undef).getD t undef=vs[t]:=by
        rw [Array.getD_eq_getD_getElem?,Array.getElem?_append_left (by simpa using hlt)]
        simp [hv]
      rw [e]
      exact ha.2 t y _ h2 hv
  refine Code.wp_mono (fun ex a' w' hq=>?_) ((h ⟨w,N,pinM σ0 γ,[]⟩ S (fun k hk=>by
    show pinM σ0 γ k=none
    unfold pinKey at hk;unfold pinM
    cases hl:look σ0 k with
    | none=>rfl
    | some ob =>
      rw [hl] at hk
      dsimp only at hk ⊢
      rw [if_neg (by rw [hk];exact Bool.false_ne_true)])).out _ _ _ _ _ hr)
  obtain ⟨γ',T',S',fr,σ,hr',hq⟩:=hq
  have hfin:((∃ y,retVM (ctx P Ty fn.ntmps ⟨w,N,pinM σ0 γ,[]⟩ S) fr σ fn.results.toList=some y∧(y=x∨outG y=x))∧(∀ p∈σ1,look σ p.1=some p.2))→ ∃ v,(results fn a'.tmps).run P w'=.ok v w'∧
      ∃ v' γ' T' S',Ending.returned v=.returned v'∧St (ictx P w N S (pinM σ0 γ)) γ' T' S' w' σ1∧RV γ' T' S' w' x v':=by
    intro ⟨⟨y,hx1,hx2⟩,hσ⟩
    obtain ⟨v,g1,g2⟩:=zdJ (X:=ctx P Ty fn.ntmps ⟨w,N,pinM σ0 γ,[]⟩ S) hT hr' hx1
    have hlk:∀ k ob,look σ1 k=some ob→look σ k=some ob:=fun k ob hk=>hσ (k,ob) (zaD hk)
    refine ⟨v,g1,v,γ',T',S',rfl,⟨hr'.st.keep,hr'.st.lt,hr'.st.nlt,hr'.st.set,hr'.st.mon,fun k ob hk=>?_,fun k k' o o' hk hk'=>hr'.st.dis k k' o o' (hlk k o hk) (hlk k' o' hk')⟩,?_⟩
    · have h1:=hr'.st.obj k ob (hlk k ob hk)
      refine h1.cx2 (fun b hb=>h1.free hb) fun hpy b hb=>?_
      have hb':pinM σ0 γ k=some b:=hb
      obtain ⟨_,ob0,hl0,hp0⟩:=zcD hb'
      have hkey:fn.ntmps≤k:=Nat.le_of_ble_eq_true (List.all_eq_true.1 hk0 _ (zaD hl0))
      have hpin:(ctx P Ty fn.ntmps ⟨w,N,pinM σ0 γ,[]⟩ S).pin k=some b:=by
        show (if k < fn.ntmps then none else pinM σ0 γ k)=some b
        rw [if_neg (by omega)];exact hb'
      exact zdB hpy h1 b hpin
    · rcases hx2 with rfl|rfl
      · exact g2
      · exact zgp g2
  cases ex with
  | normal=>obtain ⟨v,g1,g2⟩:=hfin hq;exact ⟨hr'.df,v,g1,g2⟩
  | ret=>obtain ⟨v,g1,g2⟩:=hfin hq;exact ⟨hr'.df,v,g1,g2⟩
  | exit id=>exact hq.elim
  | goto l=>exact hq.elim
  | panic ch=>exact hq.elim
  | outgrown=>exact hq.elim
def stripsF (L:List Nat) (fr:Fr):Fr:=L.foldl (fun f k=>stripF k f) fr
def stripsS (L:List Nat) (σ:Obs):Obs:=L.foldl (fun f k=>stripS k f) σ
theorem zbT (fr:Fr):stripsF [] fr=fr:=rfl
theorem zbF (k:Nat) (L:List Nat) (fr:Fr):stripsF (k :: L) fr=stripsF L (stripF k fr):=rfl
theorem zbV (σ:Obs):stripsS [] σ=σ:=rfl
theorem zbG (k:Nat) (L:List Nat) (σ:Obs):stripsS (k :: L) σ=stripsS L (stripS k σ):=rfl
def okM (σ0 σ1:Obs) (L:List Nat):Bool :=
  (σ1.all fun p=>if pinny p.2 then L.contains p.1 || (match look σ0 p.1 with|some ob=>pinny ob|none=>false) else L.contains p.1) &&
  (σ0.all fun p=>L.contains p.1 || keyIn σ1 p.1)&&σ1.all (fun p=>refsO (keyIn σ1) L.contains p.2)
def freshM (σ1:Obs) (L:List Nat):List Nat:=(σ1.filter fun p=>pinny p.2&&L.contains p.1).map (·.1)
theorem Rel.upds:∀ (L:List Nat) {fr:Fr} {σ:Obs} {γ γ2:Nat→Nat} {T T2:Nat→Value},(∀ k,k ∉ L→γ2 k=γ k)→(∀ k,k ∉ L→T2 k=T k)→Rel X γ T S w fr σ a→Rel X γ2 T2 S w (stripsF L fr) (stripsS L σ) a
  | [],fr,σ,γ,γ2,T,T2,hg,ht,h=>by
    obtain rfl:γ2=γ:=funext fun k=>hg k (by simp)
    obtain rfl:T2=T:=funext fun k=>ht k (by simp)
    exact h
  | j :: L,fr,σ,γ,γ2,T,T2,hg,ht,h=>by
    have h1:=h.upd (γ':=setK γ j (γ2 j)) (T':=setK T j (T2 j)) j (fun i hi=>zaz _ _ _ _ hi) (fun i hi=>zaz _ _ _ _ hi)
    refine Rel.upds L (fun k hk=>?_) (fun k hk=>?_) h1
    · by_cases e:k=j
      · subst e;rw [zaq]
      · rw [zaz _ _ _ _ e];exact hg k (by simp [e,hk])
    · by_cases e:k=j
      · subst e;rw [zaq]
      · rw [zaz _ _ _ _ e];exact ht k (by simp [e,hk])
theorem zdy {α:Type}:∀ {l m:List (Nat × α)} {k:Nat} {x:α},look (l++m) k=some x→look l k=some x∨(look l k=none∧look m k=some x)
  | [],m,k,x,h=>.inr ⟨rfl,h⟩
  | (j,y) :: l,m,k,x,h=>by
    simp only [List.cons_append,look] at h ⊢
    split at h
    · rename_i e;rw [if_pos e];exact .inl h
    · rename_i e;rw [if_neg e];exact zdy h
theorem zjv {k i:Nat} {s:Obs} (h:∀ ob,look s i=some ob→ob=.junk):∀ ob',look (stripS k s) i=some ob'→ob'=.junk:=fun ob' hl=>by
  rw [zar,Option.map_eq_some_iff] at hl
  obtain ⟨ob0,h1,h2⟩:=hl
  by_cases e:i=k
  · rw [if_pos e] at h2;exact h2.symm
  · rw [if_neg e] at h2
    cases hs:look s i with
    | none=>rw [hs] at h1;cases h1
    | some o1 =>
      rw [hs] at h1;injection h1 with h1;subst h1
      obtain rfl:=h _ hs
      exact h2.symm
theorem zeX:∀ (L:List Nat) {s:Obs} {i:Nat},(i∈L∨ ∀ ob,look s i=some ob→ob=.junk)→ ∀ ob,look (stripsS L s) i=some ob→ob=.junk
  | [],s,i,h,ob,hl=>(h.resolve_left (by simp)) ob hl
  | k :: L,s,i,h,ob,hl=>by
    refine zeX L (s:=stripS k s) ?_ ob hl
    by_cases hi:i∈L
    · exact .inl hi
    · refine .inr fun ob' hl'=>?_
      by_cases e:i=k
      · subst e
        rw [zar,Option.map_eq_some_iff] at hl'
        obtain ⟨_,_,h2⟩:=hl'
        rw [if_pos rfl] at h2;exact h2.symm
      · have h':∀ ob,look s i=some ob→ob=.junk:=h.resolve_left (by simp [e,hi])
        exact zjv h' ob' hl'
theorem ze5:∀ (L:List Nat) {s:Obs} {i:Nat} {ob:Ob},look (stripsS L s) i=some ob→ ∃ ob0,look s i=some ob0∧(∀ γ T γ' T',(∀ k,k ∉ L→γ' k=γ k)→(∀ k,k ∉ L→T' k=T k)→ ∀ b,fp γ' T' i ob b→fp γ T i ob0 b)
  | [],s,i,ob,h=>⟨ob,h,fun γ T γ' T' hg ht b hb=>by
    obtain rfl:γ'=γ:=funext fun k=>hg k (by simp)
    obtain rfl:T'=T:=funext fun k=>ht k (by simp)
    exact hb⟩
  | k :: L,s,i,ob,h=>by
    obtain ⟨ob1,h1,h2⟩:=ze5 L (s:=stripS k s) h
    rw [zar,Option.map_eq_some_iff] at h1
    obtain ⟨ob0,h3,h4⟩:=h1
    refine ⟨ob0,h3,fun γ T γ' T' hg ht b hb=>?_⟩
    have h5:=h2 (setK γ k (γ' k)) (setK T k (T' k)) γ' T' (fun j hj=>?_) (fun j hj=>?_) b hb
    · by_cases e:i=k
      · rw [if_pos e] at h4;subst h4;exact h5.elim
      · rw [if_neg e] at h4;subst h4
        exact fp.strip e (fun j hj=>zaz _ _ _ _ hj) (fun j hj=>zaz _ _ _ _ hj) h5
    · by_cases e:j=k
      · subst e;rw [zaq]
      · rw [zaz _ _ _ _ e];exact hg j (by simp [e,hj])
    · by_cases e:j=k
      · subst e;rw [zaq]
      · rw [zaz _ _ _ _ e];exact ht j (by simp [e,hj])
def NM (w:World) (γ:Nat→Nat) (T:Nat→Value) (σ0:Obs) (b:Nat):Prop:=b < w.heap.size∧ ∀ p∈σ0,¬ fp γ T p.1 p.2 b
theorem Rel.toM (hr:Rel X γ T S w fr σ a) (hσ:∀ p∈σ0,look σ p.1=some p.2):St (ictx X.P w (NM w γ T σ0) S (pinM σ0 γ)) γ T S w σ0 :=
  have hl:∀ k ob,look σ0 k=some ob→look σ k=some ob:=fun k ob hk=>hσ (k,ob) (zaD hk)
  ⟨.refl _ _,hr.st.lt,fun _ hb=>hb.1,fun _ _ hs=>.inl hs,⟨fun _ _ hs=>hs,fun _ _ _ _ h=>h⟩,fun k ob hk=>(hr.st.obj k ob (hl k ob hk)).cx2 (fun _ hb hN=>hN.2 (k,ob) (zaD hk) hb) (fun _ _ hb=>(zcD (σ0:=σ0) (γ:=γ) hb).1.symm),fun k k' o o' hk hk'=>hr.st.dis k k' o o' (hl k o hk) (hl k' o' hk')⟩
theorem Rel.backM (L:List Nat) (hr:Rel X γ T S w fr σ a) (hσ:∀ p∈σ0,look σ p.1=some p.2) (hst:St (ictx X.P w (NM w γ T σ0) S (pinM σ0 γ)) γ' T' S' w' σ1) (hok:okM σ0 σ1 L=true) (hfr:∀ k∈freshM σ1 L,X.pin k=none) :
    ∃ γ2 T2,Rel X γ2 T2 S' w' (stripsF L fr) (σ1++stripsS L σ) a∧(∀ k,keyIn σ1 k=true→γ2 k=γ' k)∧(∀ k,L.contains k=true→T2 k=T' k):=by
  simp only [okM,Bool.and_eq_true,List.all_eq_true] at hok
  obtain ⟨⟨hok1,hok2⟩,hok3⟩:=hok
  have hkp:Kp S w w':=hst.mon.2
  have hl0:∀ k ob,look σ0 k=some ob→look σ k=some ob:=fun k ob hk=>hσ (k,ob) (zaD hk)
  -- what stays where it lies
  have hstay:∀ k ob,look σ1 k=some ob→k ∉ L→pinny ob=true∧γ' k=γ k∧ ∃ ob0,look σ0 k=some ob0∧pinny ob0=true:=fun k ob hk hkL=>by
    have h1:=hok1 _ (zaD hk)
    have hc:L.contains k=false:=by simpa using hkL
    simp only [hc,Bool.false_or] at h1
    by_cases hp:pinny ob=true
    · rw [if_pos hp] at h1
      cases hl:look σ0 k with
      | none=>rw [hl] at h1;cases h1
      | some ob0 =>
        rw [hl] at h1
        refine ⟨hp,?_,ob0,rfl,h1⟩
        refine zdB hp (hst.obj k ob hk) (γ k) ?_
        show pinM σ0 γ k=some (γ k)
        unfold pinM;rw [hl];simp only;rw [if_pos h1]
    · rw [if_neg hp] at h1;cases h1
  have hgk:∀ k,keyIn σ1 k=true→(if L.contains k=true then γ' k else γ k)=γ' k:=fun k hk=>by
    split
    · rfl
    · rename_i hc
      unfold keyIn at hk
      cases hl:look σ1 k with
      | none=>rw [hl] at hk;cases hk
      | some ob=>exact (hstay k ob hl (by simpa using hc)).2.1.symm
  refine ⟨fun k=>if L.contains k=true then γ' k else γ k,fun k=>if L.contains k=true then T' k else T k,?_,hgk,fun k hk=>if_pos hk⟩
  have hg2:∀ k,k ∉ L→(if L.contains k=true then γ' k else γ k)=γ k:=fun k hk=>if_neg (by simpa using hk)
  have ht2:∀ k,k ∉ L→(if L.contains k=true then T' k else T k)=T k:=fun k hk=>if_neg (by simpa using hk)
  have hru:=Rel.upds (γ2:=fun k=>if L.contains k=true then γ' k else γ k) (T2:=fun k=>if L.contains k=true then T' k else T k) L hg2 ht2 hr
  have hgen:∀ (γ2:Nat→Nat) (T2:Nat→Value),(∀ k,keyIn σ1 k=true→γ2 k=γ' k)→(∀ k,L.contains k=true→T2 k=T' k)→(∀ k,k ∉ L→γ2 k=γ k)→(∀ k,k ∉ L→T2 k=T k)→Rel X γ2 T2 S w (stripsF L fr) (stripsS L σ) a→Rel X γ2 T2 S' w' (stripsF L fr) (σ1++stripsS L σ) a:=by
    intro γ2 T2 hG hT hg ht hru
    have hnN:∀ b,¬ NM w γ T σ0 b→¬ X.N b:=fun b hb hN=>by
      have h1:=hr.st.nlt b hN
      have h2:=hr.st.keep.size
      refine hb ⟨by omega,fun p hp hfp=>?_⟩
      exact (hr.st.obj _ _ (hσ p hp)).free hfp hN
    have hkey:∀ k ob,look σ1 k=some ob→keyIn σ1 k=true:=fun k ob hk=>by unfold keyIn;rw [hk];rfl
    have hbt:∀ k ob,look σ1 k=some ob→boxy ob=true∨L.contains k=true:=fun k ob hk=>by
      by_cases hkL:k∈L
      · exact .inr (by simpa using hkL)
      · exact .inl (zgb (hstay k ob hk hkL).1)
    have hRO1:∀ k ob,look σ1 k=some ob→RO X γ2 T2 S' w' k ob:=fun k ob hk=>by
      have h1:=hst.obj k ob hk
      have h2:=h1.cx2 (X':=X) (fun b hb=>hnN b (h1.free hb)) (fun hp b hb=>?_)
      · exact h2.refs hG hT (hkey k ob hk) (hbt k ob hk) (hok3 _ (zaD hk))
      · by_cases hkL:k∈L
        · have:=hfr k (List.mem_map.2 ⟨(k,ob),List.mem_filter.2 ⟨zaD hk,by simpa [hp] using hkL⟩,rfl⟩)
          rw [this] at hb;cases hb
        · obtain ⟨_,h4,ob0,h5,h6⟩:=hstay k ob hk hkL
          rw [h4]
          exact zdB h6 (hr.st.obj k ob0 (hl0 k ob0 h5)) b hb
    have hfp1:∀ k ob,look σ1 k=some ob→ ∀ b,fp γ2 T2 k ob b→¬ NM w γ T σ0 b∧fp γ' T' k ob b:=fun k ob hk b hb=>by
      have h1:fp γ' T' k ob b:=zn2 (hG k (hkey k ob hk)) ((hbt k ob hk).imp id (hT k)) hb
      exact ⟨(hst.obj k ob hk).free h1,h1⟩
    have hold:∀ k ob,look σ1 k=none→look (stripsS L σ) k=some ob→ ∀ b,fp γ2 T2 k ob b→NM w γ T σ0 b:=fun k ob hn hl b hb=>by
      obtain ⟨ob0,h1,h2⟩:=ze5 L hl
      have h3:=h2 γ T γ2 T2 hg ht b hb
      refine ⟨(hr.st.obj k ob0 h1).lt h3,fun p hp hfp=>?_⟩
      refine hr.st.dis k p.1 ob0 p.2 h1 (hσ p hp) (fun e=>?_) b h3 hfp
      subst e
      have h4:=hok2 p hp
      unfold keyIn at h4
      rw [hn] at h4
      have h5:p.1∈L:=by simpa using h4
      obtain rfl:=zeX L (.inl h5) ob hl
      exact hb
    refine ⟨⟨⟨hst.keep.os.trans hr.st.keep.os,hst.keep.tape.trans hr.st.keep.tape,hst.keep.output.trans hr.st.keep.output,Nat.le_trans hr.st.keep.size hst.keep.size,fun b hb hlt=>?_⟩,hst.lt,hr.st.nlt,fun b i hs=>?_,⟨fun b i hs=>hst.mon.1 b i (hr.st.mon.1 b i hs),fun b i x hs hc=>hkp b i x (hr.st.mon.1 b i hs) (hr.st.mon.2 b i x hs hc)⟩,fun k ob hl=>?_,fun k k' ob ob' hl hl' hne b hb=>?_⟩,fun t y hy=>?_,hr.nt,hr.df⟩
    · have hin:NM w γ T σ0 b:=Classical.byContradiction fun h=>hnN b h hb
      exact (hst.keep.block b hin hin.1).trans (hr.st.keep.block b hb hlt)
    · rcases hst.set b i hs with h1|h1
      · exact hr.st.set b i h1
      · exact .inr (hnN b h1)
    · rcases zdy hl with h1 | ⟨h1,h2⟩
      · exact hRO1 k ob h1
      · refine (hru.st.obj k ob h2).kept hst.mon.1 hkp fun b hb=>?_
        have h5:=hold k ob h1 h2 b hb
        exact ⟨hst.keep.block b h5 h5.1,fun i hs=>(hst.set b i hs).resolve_right fun h=>h h5⟩
    · rcases zdy hl with h1 | ⟨h1,h2⟩<;>rcases zdy hl' with h1' | ⟨h1',h2'⟩
      · exact fun hb'=>hst.dis k k' ob ob' h1 h1' hne b (hfp1 k ob h1 b hb).2 (hfp1 k' ob' h1' b hb').2
      · exact fun hb'=>(hfp1 k ob h1 b hb).1 (hold k' ob' h1' h2' b hb')
      · exact fun hb'=>(hfp1 k' ob' h1' b hb').1 (hold k ob h1 h2 b hb)
      · exact hru.st.dis k k' ob ob' h2 h2' hne b hb
    · exact (hru.fr t y hy).mono hst.mon.1 hkp
  exact hgen _ _ hgk (fun k hk=>if_pos hk) hg2 ht2 hru
variable {ops:Array Oper} {rest:List Oper} {Q:Fr→Obs→Prop} {d:Nat}
theorem znD (L:List Nat) {f:FuncId} {x:Operand} {xs:Array Operand} {ats:Array TypeId} {args cs:List VV} {y:VV} (hw:wantA ops o fr=some true) (hd:inF X.nt o.dst=true) (ho:o.op=.call { callee:=.value x,args:=xs,argTypes:=ats }) (hx:calleeG fr x=some (f,cs))
    (ha:argsG fr xs.toList=some args) (hc:CallsM X.P f (args++cs) σ0 y σ1) (hσ:∀ p∈σ0,look σ p.1=some p.2) (hok:okM σ0 σ1 L=true) (hy:refsV (keyIn σ1) L.contains y=true) (hfr:∀ k∈freshM σ1 L,X.pin k=none)
    (h:RL X ops rest (putF (stripsF L fr) o.dst y) (σ1++stripsS L σ) Q):RL X ops (o :: rest) fr σ Q :=
  ⟨fun γ T S w a K hr hk=>wpList_step fun K' hK=>by
    obtain ⟨us,hu1,hu2⟩:=zbR hr hx
    rw [if_pos (zam hr hw)]
    unfold Oper.wp
    rw [zbN ho hu1,hc.ent]
    refine (hc.out _ γ T S w _ (hr.toM hσ) ((zbU hr ha).app hu2)).mono fun ex w' he=>?_
    obtain ⟨v,γ',T',S',rfl,hst,hv⟩:=he
    obtain ⟨γ2,T2,hr2,hG,hT⟩:=hr.backM L hσ hst hok hfr
    exact hK _ _ (h.out γ2 T2 S' w' _ K (hr2.put hd (hv.refs hG hT hy)) hk)⟩
end
end Go.Proofs.YtiplihojmfbjkaaGreat
