/- Regions whose order is open,but for their last operation,which waits for all others: it is walked by itself. -/
import Derived.Test.YtiplihojmfbjkaaGreatWD
import Derived.Test.YtiplihojmfbjkaaGreatWX
namespace Go.Proofs.YtiplihojmfbjkaaGreat
open Go.RowKit
def reachO (ops:List Oper):Nat→List Nat→List Nat
  | 0,R=>R
  | i+1,R=>if R.contains (i+1) then (match ops[i+1]? with
      | some o=>reachO ops i ((o.after.toList.filter (Region.binds .any)).map (·.on)++R)
      | none=>reachO ops i R) else reachO ops i R
def lastOk (l:List Oper) (o:Oper):Bool :=
  Region.noSelect (l++[o]).toArray&&regOkA (l++[o]).toArray l&&(o.after.all fun e=>!Region.binds .any e || decide (e.on < l.length))&&(List.range l.length).all fun j=>(reachO (l++[o]) l.length [l.length]).contains j
theorem zbH {ops:List Oper} {L:Nat→Bool} (hL:∀ i o,ops[i]?=some o→L i=true→ ∀ e∈o.after,Region.binds .any e=true→L e.on=true):∀ (i:Nat) (R:List Nat),(∀ j∈R,L j=true)→ ∀ j∈reachO ops i R,L j=true
  | 0,R,h,j,hj=>h j hj
  | i+1,R,h,j,hj=>by
    unfold reachO at hj
    split at hj
    · rename_i hc
      split at hj
      · rename_i o ho
        refine zbH hL i _ (fun k hk=>?_) j hj
        rcases List.mem_append.1 hk with hk|hk
        · obtain ⟨e,he,rfl⟩:=List.mem_map.1 hk
          obtain ⟨h1,h2⟩:=List.mem_filter.1 he
          exact hL _ o ho (h _ (by simpa using hc)) e (by simpa using h1) h2
        · exact h k hk
      · exact zbH hL i R h j hj
    · exact zbH hL i R h j hj
section
variable {X:Ctx} {fr fr0:Fr} {σ σ':Obs} {a:Act} {w:World} {l:List Oper} {o:Oper} {τ0 σB:Obs} {xs:Nat→VV} {es:Nat→Eff} {fs:Nat→Fr} {Ks:Nat→List Cr} {Cs:Nat→Cons}
theorem zik (h:Found X (l++[o]).toArray l τ0 σB fr0 xs es fs Ks Cs) (hlast:lastOk l o=true) {QQ:Exit→Act→World→Prop}
    (hq:∀ γ T S w a,Rel X γ T S w (fs l.length) (finS τ0 σB (Ks l.length) (Cs l.length)) a→wpList X.P (l++[o]).toArray QQ [o] a w):∀ (fuel:Nat) (listed:Array Bool) (a:Act) (w:World),listed.size=l.length+1→
    (∀ i p,(l++[o])[i]?=some p→listed.getD i true=true→ ∀ e∈p.after,Region.binds .any e=true→listed.getD e.on true=true)→fuel=(listed.toList.filter (fun b=>!b)).length→listed.getD l.length true=false→InvL X l τ0 σB fr0 xs es (fun j=>listed.getD j true) a w→wpAny X.P .any (l++[o]).toArray QQ fuel listed a w:=by
  unfold lastOk at hlast
  simp only [Bool.and_eq_true,List.all_eq_true,Array.all_eq_true_iff_forall_mem] at hlast
  obtain ⟨⟨⟨_,_⟩,hafter⟩,hreach⟩:=hlast
  have hlo:(l++[o])[l.length]?=some o:=by simp
  have hpre:∀ (i:Nat) (p:Oper),l[i]?=some p→(l++[o])[i]?=some p:=fun i p hp=>by
    rw [List.getElem?_append_left (List.getElem?_eq_some_iff.1 hp).1];exact hp
  have tf:∀ (listed:Array Bool) (j:Nat),listed.size=l.length+1→j < l.length+1→(listed.getD j false=listed.getD j true):=by
    intro listed j hsz hj
    have:j < listed.size:=by omega
    simp only [Array.getD,this,dif_pos]
  have ahead:∀ (i:Nat) (p:Oper),(l++[o])[i]?=some p→ ∀ e∈p.after,Region.binds .any e=true→e.on < i:=by
    intro i p hp e he hb
    by_cases hi:i < l.length
    · rw [List.getElem?_append_left hi] at hp
      exact (zbp h.ok hp).2.1 e he hb
    · have hil:i=l.length:=by have:=(List.getElem?_eq_some_iff.1 hp).1;simp at this;omega
      subst hil
      rw [hlo] at hp;injection hp with hp;subst hp
      have h5:=hafter e he;rw [hb] at h5;simpa using h5
  have none_ready:∀ (listed:Array Bool),listed.size=l.length+1→Region.ready .any (l++[o]).toArray listed=[]→ ∀ i,i < l.length+1→listed.getD i true=true:=by
    intro listed hsz hr i
    induction i using Nat.strongRecOn with
    | _ i ih =>
      intro hi
      cases hb:listed.getD i true with
      | true=>rfl
      | false =>
        have hlt:i < (l++[o]).length:=by simpa using hi
        have ho:(l++[o])[i]?=some (l++[o])[i]:=List.getElem?_eq_getElem hlt
        have:i∈Region.ready .any (l++[o]).toArray listed:=mem_ready.2 ⟨hb,(l++[o])[i],by simp,fun e he hb=>by
          have hlt:=ahead i _ ho e he hb
          rw [tf listed _ hsz (by omega)]
          exact ih e.on hlt (by omega)⟩
        rw [hr] at this
        cases this
  intro fuel
  induction fuel with
  | zero =>
    intro listed a w hsz hcl hf hun hfr
    exfalso
    have hlt:l.length < listed.size:=by omega
    have hn:=List.eq_nil_of_length_eq_zero hf.symm
    rw [List.filter_eq_nil_iff] at hn
    have:=hn listed[l.length] (by simp)
    have hx:listed[l.length]=false:=by simpa [Array.getD,hlt] using hun
    rw [hx] at this
    exact this rfl
  | succ fuel ih =>
    intro listed a w hsz hcl hf hun0 hfr
    refine ⟨fun hr=>(by have:=none_ready listed hsz hr l.length (by omega);rw [hun0] at this;cases this),fun i hi=>?_⟩
    obtain ⟨hun,p,hp,hdeps⟩:=mem_ready.1 hi
    have hp':(l++[o])[i]?=some p:=by simpa using hp
    have hlt:i < l.length+1:=by have:=(List.getElem?_eq_some_iff.1 hp').1;simpa using this
    have hdeps':∀ e∈p.after,Region.binds .any e=true→listed.getD e.on true=true:=fun e he hb=>by
      rw [← tf listed _ hsz (by have:=ahead i p hp' e he hb;omega)];exact hdeps e he hb
    have hL:∀ j,(listed.setIfInBounds i true).getD j true=true↔(j=i∨listed.getD j true=true):=by
      intro j
      by_cases hij:i=j
      · subst hij
        have:i < listed.size:=by omega
        simp [this]
      · rw [getD_set_ne true hij];simp [Ne.symm hij]
    have hcl':∀ j q,(l++[o])[j]?=some q→(listed.setIfInBounds i true).getD j true=true→ ∀ e∈q.after,Region.binds .any e=true→(listed.setIfInBounds i true).getD e.on true=true:=by
      intro j q hq hj e he hb
      refine (hL _).2 (.inr ?_)
      rcases (hL j).1 hj with rfl|hj
      · rw [hp'] at hq
        injection hq with hq
        subst hq
        exact hdeps' e he hb
      · exact hcl j q hq hj e he hb
    have hfuel:fuel=((listed.setIfInBounds i true).toList.filter (fun b=>!b)).length:=by
      have hil:i < listed.size:=by omega
      have hfi:listed[i]=false:=by simpa [Array.getD,hil] using hun
      have hc:∀ (l:List Bool) (k:Nat) (hkl:k < l.length),l[k]=false→((l.set k true).filter (fun b=>!b)).length+1=(l.filter (fun b=>!b)).length:=by
        intro l
        induction l with
        | nil=>intro k hkl;simp at hkl
        | cons b l ih2 =>
          intro k hkl hb
          cases k with
          | zero=>simp only [List.getElem_cons_zero] at hb;subst hb;simp
          | succ k =>
            simp only [List.getElem_cons_succ] at hb
            have:=ih2 k (by simpa using hkl) hb
            cases b<;>simp at this ⊢ <;> omega
      have:=hc listed.toList i (by simpa using hil) (by simpa using hfi)
      rw [Array.toList_setIfInBounds]
      omega
    unfold wpOp
    simp only [hp]
    by_cases hin:i < l.length
    · have ho':l[i]?=some p:=by rw [List.getElem?_append_left hin] at hp';exact hp'
      have hlast':(listed.setIfInBounds i true).getD l.length true=false:=by
        rw [getD_set_ne true (by omega)];exact hun0
      have go:∀ a' w',InvL X l τ0 σB fr0 xs es (fun j=>(listed.setIfInBounds i true).getD j true) a' w'→wpAny X.P .any (l++[o]).toArray QQ fuel (listed.setIfInBounds i true) a' w':=fun a' w' hw'=>ih _ _ w' (by simpa using hsz) hcl' hfuel hlast' hw'
      rcases hfr.step h ho' (L':=fun j=>(listed.setIfInBounds i true).getD j true) hL hun hdeps' (fun j q hq hj=>hcl j q (hpre j q hq) hj) with ⟨hw,hout⟩ | ⟨hw,hinv⟩
      · rw [if_pos hw]
        exact .inl (hout.wp fun v w' hv=>go _ w' hv)
      · rw [if_neg (by rw [hw];decide)]
        exact go _ w hinv
    · have hil:i=l.length:=by omega
      subst hil
      rw [hlo] at hp'
      injection hp' with hp'
      subst hp'
      have hall:∀ j,j < l.length→listed.getD j true=true:=fun j hj=>by
        have:=zbH hcl' l.length [l.length] (fun k hk=>by obtain rfl:=List.mem_singleton.1 hk;exact (hL _).2 (.inl rfl)) j (by simpa using hreach j (List.mem_range.2 hj))
        exact ((hL j).1 this).resolve_left (by omega)
      obtain ⟨γ,T,S,hr⟩:=hfr.done h hall
      have hw1:=hq γ T S w a hr
      have hall2:∀ j,j < l.length+1→(listed.setIfInBounds l.length true).getD j true=true:=fun j hj=>(hL j).2 (by
        by_cases e:j=l.length
        · exact .inl e
        · exact .inr (hall j (by omega)))
      have hrd:Region.ready .any (l++[o]).toArray (listed.setIfInBounds l.length true)=[]:=by
        rw [List.eq_nil_iff_forall_not_mem]
        intro j hj
        obtain ⟨h1,q,hq2,_⟩:=mem_ready.1 hj
        have:j < l.length+1:=by have:=(Array.getElem?_eq_some_iff.1 hq2).1;simpa using this
        rw [hall2 j this] at h1;cases h1
      have hfin:∀ a w,QQ .normal a w→wpAny X.P .any (l++[o]).toArray QQ fuel (listed.setIfInBounds l.length true) a w:=by
        intro a w hn
        cases fuel with
        | zero=>exact ⟨hrd,hn⟩
        | succ f=>exact ⟨fun _=>hn,fun j hj=>by rw [hrd] at hj;cases hj⟩
      unfold wpList at hw1
      split at hw1
      · rename_i hwant
        rw [if_pos hwant]
        exact hw1.imp (fun hwp=>Oper.wp_mono (fun _ _ h=>hfin _ _ h) hwp) id
      · rename_i hwant
        rw [if_neg hwant]
        exact hfin _ _ hw1
theorem zkQ {id:Nat} {QQ:Exit→Fr→Obs→Prop} (hm:X.P.follows .mixedOrders=true) (τ0 σB:Obs) (hok:lastOk l o=true) (hs1:∀ p∈τ0,look σ p.1=some p.2) (hs2:Sub σB σ) (h:DSeq X (l++[o]).toArray τ0 σB (fun fr σ=>RL X (l++[o]).toArray [o] fr σ (QQ .normal)) 0 [] [] l fr):W X (.region id (l++[o]).toArray true) fr σ QQ :=
  ⟨fun γ T S w a hr=>by
    obtain ⟨xs,es,fs,Ks,Cs,h1,h2,h3,h4,h5⟩:=zdw l 0 [] [] fr h
    simp only [Nat.zero_add] at h4 h5
    have hok2:=hok
    unfold lastOk at hok2
    simp only [Bool.and_eq_true] at hok2
    have hF:Found X (l++[o]).toArray l τ0 σB fr xs es fs Ks Cs:=⟨hok2.1.1.2,h1,h2,h3,h4⟩
    refine wp_region_any hm ?_
    have hr0:Rel X γ T S { w with drawn:=w.drawn+1 } fr σ a:=hr.grow ⟨rfl,rfl,rfl,Nat.le_refl _,fun _ _=>rfl⟩ (fun _ _ h=>h) (fun _ _ h=>.inl h)
    have hun:∀ j,j < l.length+1→(Array.replicate (l.length+1) false).getD j true=false:=fun j hj=>by
      simp only [Array.getD,Array.size_replicate,hj,dif_pos]
      simp
    have hsz:(l++[o]).toArray.size=l.length+1:=by simp
    rw [hsz]
    refine zik hF hok (QQ:=LQ X QQ) (fun γ T S w a hr=>h5.out γ T S w a _ hr fun γ T S w a fr σ hr hq=>⟨γ,T,S,fr,σ,hr,hq⟩) (l.length+1) (Array.replicate (l.length+1) false) a { w with drawn:=w.drawn+1 } (by simp) (fun i p hp hi=>?_) (by simp) (hun _ (by omega)) ⟨γ,T,S,fr,σ,hr0,fun t x hx=>?_,hs2,fun k ob hk=>?_⟩
    · have hlt:i < l.length+1:=by have:=(List.getElem?_eq_some_iff.1 hp).1;simpa using this
      rw [hun i hlt] at hi;cases hi
    · unfold FL at hx
      cases hw:wrO l t with
      | none=>rw [hw] at hx;exact hx
      | some j =>
        rw [hw] at hx
        obtain ⟨p,hp,_⟩:=zcA hw
        have hlt:=(List.getElem?_eq_some_iff.1 hp).1
        simp only [hun j (by omega),Bool.false_eq_true,if_false] at hx
        exact hx
    · rcases hk with hk | ⟨j,o,b,hj,ho,_⟩
      · rcases hk.2 with h6 | ⟨j,o,hj,ho,_⟩
        · exact hs1 _ h6
        · have hlt:=(List.getElem?_eq_some_iff.1 ho).1
          simp only [hun j (by omega)] at hj;cases hj
      · have hlt:=(List.getElem?_eq_some_iff.1 ho).1
        simp only [hun j (by omega)] at hj;cases hj⟩
end
end Go.Proofs.YtiplihojmfbjkaaGreat
namespace Go.Proofs.YtiplihojmfbjkaaGreat
open Go.RowKit
def splitLast:List Oper→Option (List Oper × Oper)
  | []=>none
  | o :: l=>match splitLast l with
    | some (m,p)=>some (o :: m,p)
    | none=>some ([],o)
theorem zgV:∀ {l:List Oper},splitLast l=none→l=[]
  | [],_=>rfl
  | o :: l,h=>by
    unfold splitLast at h
    split at h<;>cases h
theorem zbi:∀ {l m:List Oper} {o:Oper},splitLast l=some (m,o)→l=m++[o]
  | [],_,_,h=>by cases h
  | p :: l,m,o,h=>by
    unfold splitLast at h
    split at h
    · rename_i m' p' h1
      injection h with h
      injection h with h2 h3
      subst h2;subst h3
      rw [zbi h1];rfl
    · rename_i h1
      injection h with h
      injection h with h2 h3
      subst h2;subst h3
      rw [zgV h1];rfl
def isStore (o:Oper):Bool:=match o.op with | .store _ _ _=>true | .mapUpdate _ _ _ _=>true|_=>false
section
variable {X:Ctx} {fr fr1:Fr} {σ σ1:Obs} {o:Oper} {ops:Array Oper} {rest:List Oper} {d j:Nat} {t:TypeId} {i:TyI} {x:VV} {τ0 σB:Obs} {K:List Cr} {C:Cons} {QD:Fr→Obs→Prop}
theorem zpU (hT:Good X) (hdst:o.dst=some d) (hd:Nat.blt d X.nt=true) (hw:wantA ops o (restr ops o fr)=some true) (ho:o.op=.alloc t) (hi:X.Ty t=some i) (ha:i.agg=true) (hm:MenOk o K (.one (.po d 0))) (hf:FreeF d fr) (hs:FreeS d σB) (ht:FreeS d τ0)
    (h:DSeq X ops τ0 σB QD (j+1) (⟨d,j,.box t (i.zero.map zc)⟩ :: K) C rest ((d,.one (.po d 0)) :: fr)):DSeq X ops τ0 σB QD j K C (o :: rest) fr :=
  ⟨.one (.po d 0),.alc t (i.zero.map zc),⟨by rw [hdst];exact hd,hm,⟨hw,d,hdst,rfl,fun γ T S w a hr=>by
    have hk:=hT t i hi
    obtain ⟨inf,d0,h1,h2,h3,h4,h5,h6,_⟩:=hk.get
    refine .inl ⟨_,_,?_,i.zero,rfl,rfl,RDL.zcs hk.z1⟩
    simp only [execOp,ho,Instr.alloc,Sem.run_bind,zes h1 h5,ha,if_true,Result.andThen_ok,zbO,Value.cells,Sem.run_pure]⟩,fun d' h' _=>by
    rw [hdst] at h';injection h' with h';subst h';exact ⟨hf,hs,fun p hp=>ht p hp⟩,fun k e sz h=>(by cases h),fun k ob ob' h=>(by cases h)⟩,by rw [hdst];exact h⟩
theorem D_st (hT:Good X) {k:Nat} {ty:TypeId} {p xx:Operand} {cs ds:List D} (hdst:o.dst=none) (hw:wantA ops o (restr ops o fr)=some true) (ho:o.op=.store t p xx) (hp:ev (restr ops o fr) p=some (.one (.po k 0))) (hx:ev (restr ops o fr) xx=some (.dat ds)) (hi:X.Ty t=some i) (hl:ds.length=i.size) (hl2:cs.length=i.size)
    (hkC:hasC C k=false) (hkB:look σB k=none) (hsrc:(k,Ob.box ty cs)∈τ0∨ ∃ c∈K,c.d=k∧c.ob=.box ty cs∧onO o c.i=true) (h:DSeq X ops τ0 σB QD (j+1) K ((k,some (.box ty ds)) :: C) rest fr):DSeq X ops τ0 σB QD j K C (o :: rest) fr :=
  ⟨.junk,.chg k (.box ty cs) (.box ty ds),⟨by rw [hdst];rfl,fun _ _=>.inr rfl,⟨hw,rfl,rfl,fun _=>rfl,fun γ T S w a hr=>by
    obtain ⟨us,g1,g2,g3,g4⟩:=hr.st.obj k (.box ty cs) (by simp [look])
    obtain ⟨inf,d0,h1,h2,h3,_⟩:=(hT t i hi).get
    have hpv:=zae hr hp
    have hv:=zcG (show cellsV (.dat ds)=some ds from rfl) (zae hr hx)
    cases hpv with
    | one hpv =>
      have hpv:a.eval p=.pointer (some ⟨γ k,0,none⟩):=hpv
      have hlen:(a.eval xx).cells.toList.length=i.size:=by rw [hv.1];exact hl
      have hst:(storeVar t ⟨γ k,0,none⟩ (a.eval xx)).run X.P w=.ok () (w.setRow (γ k) (us.take 0++(a.eval xx).cells.toList++us.drop (0+(a.eval xx).cells.toList.length)).toArray):=by
        have:=run_storeCells_at X.P (γ k) 0 ty (a.eval xx).cells.toList 0 us.toArray w g1 (by rw [hlen];simp [g2.1];omega) hv.all1
        simp only [Nat.add_zero] at this
        have hsz:(a.eval xx).cells.size=inf.size:=by rw [h3,← hlen];simp
        simp only [storeVar,Sem.run_bind,zaP h1,Result.andThen_ok,hsz,ne_eq,not_true,if_false,this]
      refine .inr ⟨w.setRow (γ k) (us.take 0++(a.eval xx).cells.toList++us.drop (0+(a.eval xx).cells.toList.length)).toArray,?_,zcc w _ _,⟨us.take 0++(a.eval xx).cells.toList++us.drop (0+(a.eval xx).cells.toList.length),setRow_heap w _ _ _ _ _ g1,?_,g3,g4⟩,.junk _⟩
      · simp only [execOp,ho,hpv,Instr.storeAt,Instr.sureAddr,Sem.run_bind,Sem.run_pure,Result.andThen_ok,hst]
      · have hk:Kp S w (w.setRow (γ k) (us.take 0++(a.eval xx).cells.toList++us.drop (0+(a.eval xx).cells.toList.length)).toArray):=.row _ g3
        have h5:=(zd6 (off:=0) g2 hv (by omega)).mono (fun _ _ hs=>hs) hk
        rw [zeQ (hl.trans hl2.symm)] at h5
        exact h5⟩,fun d' h' _=>(by rw [hdst] at h';cases h'),fun k e sz h=>(by cases h),fun k' ob ob' h'=>by
        injection h' with a1 a2 a3;subst a1;subst a2;subst a3;exact ⟨hkC,hkB,hsrc⟩⟩,by rw [hdst];exact h⟩
end
section
variable {X:Ctx} {fr fr1:Fr} {σ σ1:Obs} {o:Oper} {ops:Array Oper} {rest:List Oper} {Q:Fr→Obs→Prop}
theorem zcg {rs:List ResultVar} {p k:Nat} {t ty:TypeId} {i:TyI} {cs ds:List D} (hrs:rs=[.cell p t]) (hp:look fr p=some (.one (.po k 0))) (hk:look σ k=some (.box ty cs)) (hi:X.Ty t=some i) (ha:i.agg=true) (hl:cs.length=i.size) (e:cs=ds):EndQ X rs (.val (.dat ds)) .ret fr σ:=by
  subst e;subst hrs
  show (retV X fr σ [.cell p t]).bind dataV=some (.dat cs)
  have:ret1 X fr σ (.cell p t)=some (.dat cs):=by simp only [ret1,hi,hp,hk,loadA,ha,hl,if_true,and_self]
  simp only [retV,retL,this]
  rfl
theorem zkd (hT:Good X) {s x:Operand} {t e:TypeId} {k d sz:Nat} {i ie:TyI} {rows news rows':List (List D)} (hw:wantA ops o fr=some true) (hdst:o.dst=some d) (hd:Nat.blt d X.nt=true) (ho:o.op=.call { callee:=.builtin .append,args := #[s,x],argTypes := #[t,t] })
    (hs:ev fr s=some (.one (.own k rows))) (hk:look σ k=some (.tok e sz)) (hx:(ev fr x).bind rowsV=some news) (hi:X.Ty t=some i) (hit:i.tag=2) (hie:i.elem=e) (he:X.Ty e=some ie) (hsz:ie.size=sz)
    (h1:sized sz rows=true) (h2:sized sz news=true) (hbd:(rows.length+news.length) * ie.bytes≤140737488355328) (hr':rows++news=rows')
    (h:RL X ops rest ((d,.one (.own k rows')) :: stripF k fr) ((k,.tok e sz) :: stripS k ((k,.junk) :: σ)) Q):RL X ops (o :: rest) fr σ Q :=
  ⟨fun γ T S w a K hr hkk=>wpList_step fun K' hK=>by
    subst hr'
    rw [if_pos (zam hr hw)]
    have hv:=zae hr hs
    cases hv with
    | one hv =>
      obtain ⟨xv,hx1,hx2⟩:=Option.bind_eq_some_iff.1 hx
      obtain ⟨v',w',S',r1,q1,q2⟩:=zea (ty:=o.type) (d:=k) hT hr hk hv (zaR hx2 (zae hr hx1)) hi hit hie he hsz h1 h2 hbd
      have q3:=h.out γ _ S' w' _ K (q1.put (dst:=some d) (show inF X.nt (some d)=true from hd) q2) hkk
      unfold Oper.wp
      rw [zbA ho r1]
      rw [← hdst] at q3
      exact hK _ _ q3⟩
end
section
variable {w0:W0} {S0:Nat→Nat→Prop} {nt:Nat} {fr fr1:Fr} {σ σ1:Obs} {o:Oper} {ops:Array Oper} {rest:List Oper} {d j:Nat} {t:TypeId} {i:TyI} {τ0 σB:Obs} {K:List Cr} {C:Cons} {QD:Fr→Obs→Prop} {cs:List D}
theorem uAnyL {id:Nat} {l l1:List Oper} {QQ:Exit→Fr→Obs→Prop} (h:DSeq (cx nt w0 S0) l1.toArray [] σ (fun fr σ=>RL (cx nt w0 S0) l1.toArray [o] fr σ (QQ .normal)) 0 [] [] l fr) (hl:splitLast l1=some (l,o):=by rfl) (_hst:isStore o=true:=by rfl) (hok:lastOk l o=true:=by kernel_rfl):W (cx nt w0 S0) (.region id l1.toArray true) fr σ QQ:=by
  have e:=zbi hl
  subst e
  exact zkQ (X:=cx nt w0 S0) zeT [] σ hok (fun p hp=>by cases hp) (fun _ _ h=>h) h
theorem uAk {Q:Fr→Obs→Prop} {k sz:Nat} {rows news rows':List (List D)} {e:TyI} {s xx:Operand} {el:TypeId} (h:RL (cx nt w0 S0) ops rest ((d,.one (.own k rows')) :: fr1) ((k,.tok el sz) :: σ1) Q) (ho:o.op=.call { callee:=.builtin .append,args := #[s,xx],argTypes := #[t,t] }:=by rfl) (hdst:o.dst=some d:=by rfl) (hd:Nat.blt d nt=true:=by rfl) (hw:wantA ops o fr=some true:=by rfl)
    (hs:ev fr s=some (.one (.own k rows)):=by rfl) (hk:look σ k=some (.tok el sz):=by rfl) (hx:(ev fr xx).bind rowsV=some news:=by rfl) (hi:Ty t=some i:=by rfl) (hit:i.tag=2:=by rfl) (hie:i.elem=el:=by rfl) (he:Ty el=some e:=by rfl) (hsz:e.size=sz:=by rfl)
    (h1:sized sz rows=true:=by first|rfl|exact zaY _|exact zai _|exact zaU _|assumption|exact zaK _ (zai _)|exact zaJ _ (zai _)|exact zah (by assumption) rfl|exact zah (zah rfl (zai _)) rfl|exact zah rfl (zai _)|(simp only [sized,List.all_append,List.all_cons,List.all_nil,List.all_map,Bool.and_true,Bool.and_self,zal];rfl)|(simp [sized,zal,encS];done)|simp [sized,zan]) (h2:sized sz news=true:=by first|rfl|exact zaY _|exact zai _|exact zaU _|assumption|exact zaK _ (zai _)|exact zaJ _ (zai _)|exact zah (by assumption) rfl|exact zah (zah rfl (zai _)) rfl|exact zah rfl (zai _)|(simp only [sized,List.all_append,List.all_cons,List.all_nil,List.all_map,Bool.and_true,Bool.and_self,zal];rfl)|(simp [sized,zal,encS];done)|simp [sized,zan]) (hbd:(rows.length+news.length) * e.bytes≤140737488355328:=by first|decide|(simp only [List.length_map,List.length_append,List.length_take,List.length_drop,List.length_cons,List.length_nil];omega)) (hr':rows++news=rows':=by first|assumption|rfl)
    (hf:stripF k fr=fr1:=by exact strxA) (hσ:stripS k ((k,.junk) :: σ)=σ1:=by exact strxA):RL (cx nt w0 S0) ops (o :: rest) fr σ Q :=
  zkd (X:=cx nt w0 S0) zad hw hdst hd ho hs hk hx hi hit hie he hsz h1 h2 hbd hr' (hf ▸ hσ ▸ h)
theorem mAl (h:DSeq (cx nt w0 S0) ops τ0 σB QD (j+1) (⟨d,j,.box t cs⟩ :: K) C rest ((d,.one (.po d 0)) :: fr)) (ho:o.op=.alloc t:=by rfl) (hdst:o.dst=some d:=by rfl) (hd:Nat.blt d nt=true:=by rfl) (hw:wantA ops o (restr ops o fr)=some true:=by rfl) (hi:Ty t=some i:=by rfl) (ha:i.agg=true:=by rfl)
    (hcs:i.zero.map zc=cs:=by first|((try simp only [zc,isNil,List.map_cons,List.map_nil,Bool.false_eq_true,if_false,if_true,reduceIte])<;>rfl)|rfl) (hm:MenOk o K (.one (.po d 0)):=by (repeat (first|exact zax _ _|refine zau (by first|exact Or.inl rfl|exact Or.inr rfl) ?_))) (hf:FreeF d fr:=by (repeat (first|exact zc3 _|refine zcH (by rfl) ?_))) (hs:FreeS d σB:=by (repeat (first|exact zbu _|refine zbf (by rfl) (by rfl) ?_))) (ht:FreeS d τ0:=by (repeat (first|exact zbu _|refine zbf (by rfl) (by rfl) ?_))):DSeq (cx nt w0 S0) ops τ0 σB QD j K C (o :: rest) fr :=
  zpU (X:=cx nt w0 S0) zad hdst hd hw ho hi ha hm hf hs ht (by rw [hcs];exact h)
theorem mSt {k:Nat} {ty:TypeId} {p xx:Operand} {cs ds:List D} (h:DSeq (cx nt w0 S0) ops τ0 σB QD (j+1) K ((k,some (.box ty ds)) :: C) rest fr) (ho:o.op=.store t p xx:=by rfl) (hdst:o.dst=none:=by rfl) (hw:wantA ops o (restr ops o fr)=some true:=by rfl) (hp:ev (restr ops o fr) p=some (.one (.po k 0)):=by rfl)
    (hsrc:(k,Ob.box ty cs)∈τ0∨ ∃ c∈K,c.d=k∧c.ob=.box ty cs∧onO o c.i=true:=by first|exact .inr ⟨_,List.mem_cons_self,rfl,rfl,rfl⟩|exact .inr ⟨_,List.mem_cons_of_mem _ List.mem_cons_self,rfl,rfl,rfl⟩|exact .inr ⟨_,List.mem_cons_of_mem _ (List.mem_cons_of_mem _ List.mem_cons_self),rfl,rfl,rfl⟩|exact .inl List.mem_cons_self|exact .inl (List.mem_cons_of_mem _ List.mem_cons_self)) (hx:ev (restr ops o fr) xx=some (.dat ds):=by rfl) (hi:Ty t=some i:=by rfl) (hl:ds.length=i.size:=by rfl) (hl2:cs.length=i.size:=by rfl) (hkC:hasC C k=false:=by rfl) (hkB:look σB k=none:=by rfl):DSeq (cx nt w0 S0) ops τ0 σB QD j K C (o :: rest) fr :=
  D_st (X:=cx nt w0 S0) zad hdst hw ho hp hx hi hl hl2 hkC hkB hsrc h
end
end Go.Proofs.YtiplihojmfbjkaaGreat
