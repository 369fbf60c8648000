/- The deferred closure of expr.Eval: what is thrown is taken,or nothing is. -/
import Derived.Test.YtiplihojmfbjkaaGreatWY
import Derived.Test.YtiplihojmfbjkaaGreatA1
import Derived.KernelRfl
import Derived.Tactics
import Derived.Tactics2
import Derived.Defers
import Derived.Recover
import Derived.Laws.Pointers
import Derived.Test.YtiplihojmfbjkaaGreatMT
set_option maxRecDepth 100000
namespace Go.Proofs.YtiplihojmfbjkaaGreat
open Go.RowKit
theorem zkL (p q:Addr) (w:World) :
    CallsD Tryz.prog 178 #[.pointer (some p),.pointer (some q)] .returning w fun e u' w'=>e=.returned (.tuple #[])∧u'=.returning∧w'=w:=by
  have hnil:∀ w:World,(binOp BinOp.neq 20 .nilIface .nilIface).run Tryz.prog w=.ok (.bool false) w:=fun _=>by kernel_rfl
  refine callsD_of_wpS Tryz.func178 rfl fun c₀ cs hu=>?_
  apply wpS_seq
  apply wpS_region
  simp [wpOpsS,go_sem,recoverD,hu,Tryz.ntmps178,Exit.thenS]
  apply wpS_seq
  apply wpS_region
  simp [wpOpsS,go_sem,Exit.thenS,hnil]
  refine wpS_cond (t:=false) (by simp [Act.eval,Array.replicate]) ?_
  simp only [Bool.false_eq_true,if_false]
  refine wpS_of_wp (wp_skip ?_)
  cases c₀
  simp_all [bodyPostS,results,Tryz.results178]
def zeroCs:Array Value := #[.int .i64 0,.int .i64 0,.float .f64 0,.string ⟨#[]⟩]
def thrown:Value:=.iface 267 (.agg #[])
theorem znY (bv be:Nat) (us:Array Value) (e0:Value) (w:World) (hv:w.heap[bv]?=some (.cells us 28 (0,0))) (hus:us.size=4) (he:w.heap[be]?=some (.cells #[e0] 39 (0,0))) (hne:bv≠be) :
    CallsD Tryz.prog 178 #[.pointer (some ⟨bv,0,none⟩),.pointer (some ⟨be,0,none⟩)] (.panicking [{ v:=thrown,recovered:=false }]) w fun e u' w' =>
      e=.returned (.tuple #[])∧u'=.panicking [{ v:=thrown,recovered:=true }]∧
        w'=((w.alloc (.cells #[] 267)).setRow bv zeroCs).setRow be #[.int .i64 4]:=by
  have hnil:∀ w:World,(binOp BinOp.neq 20 thrown .nilIface).run Tryz.prog w=.ok (.bool true) w:=fun _=>by kernel_rfl
  have hta:∀ w:World,(Instr.typeAssert thrown 20 267 true).run Tryz.prog w=.ok (.tuple #[.agg #[],.bool true]) w:=fun _=>by kernel_rfl
  have hz:∀ w:World,(zeroValue 267).run Tryz.prog w=.ok (.agg #[]) w:=fun _=>by kernel_rfl
  have hsz:∀ w:World,(sizeOf 267).run Tryz.prog w=.ok 0 w:=fun _=>by kernel_rfl
  refine callsD_of_wpS Tryz.func178 rfl fun c₀ cs hu=>?_
  apply wpS_seq
  apply wpS_region
  simp [wpOpsS,go_sem,recoverD,hu,Tryz.ntmps178,Exit.thenS,thrown]
  apply wpS_seq
  apply wpS_region
  unfold thrown at hnil hta
  simp [wpOpsS,go_sem,Exit.thenS,hnil]
  refine wpS_cond (t:=true) (by simp [Act.eval,Array.replicate]) ?_
  simp only [if_true]
  apply wpS_seq
  apply wpS_seq
  apply wpS_region
  simp [wpOpsS,go_sem,Exit.thenS,hta,hz,hsz]
  apply wpS_seq
  apply wpS_region
  simp [wpOpsS,go_sem,Exit.thenS]
  refine wpS_cond (t:=false) (by simp [Act.eval,Array.replicate]) ?_
  simp only [Bool.false_eq_true,if_false]
  refine wpS_of_wp (wp_skip ?_)
  simp only [Exit.thenS]
  have hb:∀ w:World,(Instr.build 28 #[]).run Tryz.prog w=.ok (.agg zeroCs) w:=fun _=>by kernel_rfl
  have s1:∀ w:World,(sizeOf 28).run Tryz.prog w=.ok 4 w:=fun _=>by kernel_rfl
  have s2:∀ w:World,(sizeOf 39).run Tryz.prog w=.ok 1 w:=fun _=>by kernel_rfl
  have lv:bv < w.heap.size:=(Array.getElem?_eq_some_iff.1 hv).1
  have le:be < w.heap.size:=(Array.getElem?_eq_some_iff.1 he).1
  have hv1:(w.alloc (.cells #[] 267)).heap[bv]?=some (.cells us 28 (0,0)):=by rw [← hv];show (w.heap.push _)[bv]?=_;rw [Array.getElem?_push_lt lv,Array.getElem?_eq_getElem lv]
  have he1:(w.alloc (.cells #[] 267)).heap[be]?=some (.cells #[e0] 39 (0,0)):=by rw [← he];show (w.heap.push _)[be]?=_;rw [Array.getElem?_push_lt le,Array.getElem?_eq_getElem le]
  have st1:(storeVar 28 ⟨bv,0,none⟩ (.agg zeroCs)).run Tryz.prog (w.alloc (.cells #[] 267))=.ok () ((w.alloc (.cells #[] 267)).setRow bv zeroCs):=by
    have:=run_storeCells_at Tryz.prog bv 0 28 zeroCs.toList 0 us _ hv1 (by rw [hus];decide) (by decide)
    have e1:us.toList.take 0++zeroCs.toList++us.toList.drop (0+zeroCs.toList.length)=zeroCs.toList:=by
      have:us.toList.length=4:=by simpa using hus
      rw [List.drop_of_length_le (by rw [this];decide)];simp
    simp only [Nat.add_zero] at this
    rw [e1] at this
    simp only [storeVar,Sem.run_bind,s1,Result.andThen_ok]
    exact this
  have he2:((w.alloc (.cells #[] 267)).setRow bv zeroCs).heap[be]?=some (.cells #[e0] 39 (0,0)):=by
    rw [← he1];exact (zcc _ bv zeroCs).block be hne.symm
  have st2:(storeVar 39 ⟨be,0,none⟩ (.int .i64 4)).run Tryz.prog ((w.alloc (.cells #[] 267)).setRow bv zeroCs)=.ok () (((w.alloc (.cells #[] 267)).setRow bv zeroCs).setRow be #[.int .i64 4]):=by
    have:=run_storeCells_at Tryz.prog be 0 39 [.int .i64 4] 0 #[e0] _ he2 (by simp) (by decide)
    simp only [Nat.add_zero] at this
    simp only [storeVar,Sem.run_bind,s2,Result.andThen_ok]
    exact this
  refine wpS_of_wp (wp_region_lit ?_)
  generalize hA:(Act.mk _ _)=A
  have h0:A.tmps.getD 0 undef=.pointer (some ⟨bv,0,none⟩):=by subst hA;simp
  have h1:A.tmps.getD 1 undef=.pointer (some ⟨be,0,none⟩):=by subst hA;simp
  have hsz:A.tmps.size=17:=by subst hA;simp
  have hdf:A.defers=[]:=by subst hA;rfl
  refine wpList_plain rfl fun K1 hK1=>?_
  unfold Oper.wp
  simp only [execOp,List.map_toArray,List.map_nil,Sem.run_bind,hb,Result.andThen_ok,Sem.run_pure,Oper.upon_value]
  refine hK1 _ _ ?_
  have p0:(A.put (some 16) (.agg zeroCs)).tmps.getD 0 undef=.pointer (some ⟨bv,0,none⟩):=by rw [← h0];simp [Act.put,Array.getD_eq_getD_getElem?]
  have p1:(A.put (some 16) (.agg zeroCs)).tmps.getD 1 undef=.pointer (some ⟨be,0,none⟩):=by rw [← h1];simp [Act.put,Array.getD_eq_getD_getElem?]
  have p16:(A.put (some 16) (.agg zeroCs)).tmps.getD 16 undef=.agg zeroCs:=by simp [Act.put,hsz]
  have q0:(A.put (some 16) (.agg zeroCs)).eval (.tmp 0)=.pointer (some ⟨bv,0,none⟩):=p0
  have q1:(A.put (some 16) (.agg zeroCs)).eval (.tmp 1)=.pointer (some ⟨be,0,none⟩):=p1
  have q16:(A.put (some 16) (.agg zeroCs)).eval (.tmp 16)=.agg zeroCs:=p16
  refine wpList_plain rfl fun K2 hK2=>?_
  unfold Oper.wp
  simp only [execOp,q0,q16,Instr.storeAt,Instr.sureAddr,Sem.run_bind,Sem.run_pure,Result.andThen_ok,st1,Oper.upon_skip]
  refine hK2 _ _ ?_
  refine wpList_plain rfl fun K3 hK3=>?_
  unfold Oper.wp
  have hn:∀ (B:Act) v,B.put none v=B:=fun _ _=>rfl
  have qc:(A.put (some 16) (.agg zeroCs)).eval (.const (.int .i64 4))=.int .i64 4:=rfl
  simp only [hn,execOp,q1,qc,Instr.storeAt,Instr.sureAddr,Sem.run_bind,Sem.run_pure,Result.andThen_ok,st2,Oper.upon_skip]
  refine hK3 _ _ (wpList_nil ?_)
  refine ⟨hdf,_,rfl,.tuple #[],?_,rfl,rfl,rfl⟩
  kernel_rfl
end Go.Proofs.YtiplihojmfbjkaaGreat
namespace Go.Proofs.YtiplihojmfbjkaaGreat
open Go.RowKit
theorem zbW {o:Oper} (h:o.guard=none) (y:Nat→Option Bool):Region.wanted o y=true:=by unfold Region.wanted;rw [h]
def LS (n i j:Nat) (listed:Array Bool):Prop:=listed.size=n+6∧ ∀ x,x < n+6→(listed.getD x true=true↔(x≤n∨(n+1≤x∧x < n+1+i)∨(n+3≤x∧x < n+3+j)))
theorem LS.set {n i j i' j' x:Nat} {listed:Array Bool} (h:LS n i j listed) (hx:x < n+6) (hc:∀ y,y < n+6→((y≤n∨(n+1≤y∧y < n+1+i')∨(n+3≤y∧y < n+3+j'))↔(y=x∨(y≤n∨(n+1≤y∧y < n+1+i)∨(n+3≤y∧y < n+3+j))))):LS n i' j' (listed.setIfInBounds x true):=by
  refine ⟨by simpa using h.1,fun y hy=>?_⟩
  rw [hc y hy]
  by_cases e:x=y
  · subst e
    have:x < listed.size:=by rw [h.1];exact hx
    simp [this]
  · rw [getD_set_ne true e,h.2 y hy]
    exact ⟨.inr,fun h=>h.resolve_left (Ne.symm e)⟩
theorem LS.f {n i j x:Nat} {listed:Array Bool} (h:LS n i j listed) (hx:x < n+6):listed.getD x false=listed.getD x true:=by
  have:x < listed.size:=by rw [h.1];exact hx
  simp only [Array.getD,this,dif_pos]
structure Bs (L:List Nat) (a1 a:Act):Prop where
  tm:∀ t,t ∉ L→a.tmps.getD t undef=a1.tmps.getD t undef
  sz:a.tmps.size=a1.tmps.size
  df:a.defers=a1.defers
theorem zee {a:Act} {d:Nat} (v:Value) (h:d < a.tmps.size):(a.put (some d) v).tmps.getD d undef=v:=by
  simp [Act.put,h]
theorem zbX {a:Act} {d t:Nat} (v:Value) (h:t≠d):(a.put (some d) v).tmps.getD t undef=a.tmps.getD t undef:=by
  simp [Act.put,Array.getD_eq_getD_getElem?,Ne.symm h]
theorem Bs.put {L:List Nat} {a1 a:Act} (h:Bs L a1 a) {d:Nat} (hd:d∈L) (v:Value):Bs L a1 (a.put (some d) v) :=
  ⟨fun t ht=>(zbX v (by rintro rfl;exact ht hd)).trans (h.tm t ht),by simpa [Act.put] using h.sz,h.df⟩
section
variable {P:Program} {ops:Array Oper} {QQ:Exit→Act→World→Prop} {n:Nat} {oI oS oN oF oH:Oper} {dI dN dF:Nat} {pI pN pF:Value} {a1:Act} {W00 W10 W01 W11:World}
def WS (W00 W10 W01 W11:World) (i j:Nat):World:=if i=2 then (if j=3 then W11 else W10) else (if j=3 then W01 else W00)
theorem tail5 (hsz:ops.size=n+6) (gI:ops[n+1]?=some oI) (gS:ops[n+2]?=some oS) (gN:ops[n+3]?=some oN) (gF:ops[n+4]?=some oF) (gH:ops[n+5]?=some oH)
    (eI:∀ e∈oI.after,Region.binds .any e=true→e.on≤n) (eS:∀ e∈oS.after,Region.binds .any e=true→e.on≤n+1) (cS:∃ e∈oS.after,Region.binds .any e=true∧e.on=n+1)
    (eN:∀ e∈oN.after,Region.binds .any e=true→e.on≤n) (eF:∀ e∈oF.after,Region.binds .any e=true→e.on≤n∨e.on=n+3) (cF:∃ e∈oF.after,Region.binds .any e=true∧e.on=n+3)
    (eH:∀ e∈oH.after,Region.binds .any e=true→e.on≤n∨e.on=n+3∨e.on=n+4) (cH:∃ e∈oH.after,Region.binds .any e=true∧e.on=n+4)
    (uI:oI.guard=none) (uS:oS.guard=none) (uN:oN.guard=none) (uF:oF.guard=none) (uH:oH.guard=none)
    (dI_:oI.dst=some dI) (dS_:oS.dst=none) (dN_:oN.dst=some dN) (dF_:oF.dst=some dF) (dH_:oH.dst=none) (lI:dI < a1.tmps.size) (lN:dN < a1.tmps.size) (lF:dF < a1.tmps.size) (nIN:dI≠dN) (nIF:dI≠dF) (nNF:dN≠dF)
    (hI:∀ a w,Bs [dI,dN,dF] a1 a→(execOp a.eval oI).run P w=.ok (.value pI) w)
    (hS:∀ a j,Bs [dI,dN,dF] a1 a→a.tmps.getD dI undef=pI→(execOp a.eval oS).run P (WS W00 W10 W01 W11 1 j)=.ok .skip (WS W00 W10 W01 W11 2 j))
    (hN:∀ a w,Bs [dI,dN,dF] a1 a→(execOp a.eval oN).run P w=.ok (.value pN) w)
    (hF:∀ a w,Bs [dI,dN,dF] a1 a→a.tmps.getD dN undef=pN→(execOp a.eval oF).run P w=.ok (.value pF) w)
    (hH:∀ a i,Bs [dI,dN,dF] a1 a→a.tmps.getD dF undef=pF→(execOp a.eval oH).run P (WS W00 W10 W01 W11 i 2)=.ok .skip (WS W00 W10 W01 W11 i 3))
    (hQ:∀ a,Bs [dI,dN,dF] a1 a→a.tmps.getD dI undef=pI→a.tmps.getD dN undef=pN→a.tmps.getD dF undef=pF→QQ .normal a W11) :
    ∀ (k i j:Nat) (a:Act) (listed:Array Bool) (fuel:Nat),i≤2→j≤3→i+j+k=5→k≤fuel→LS n i j listed→Bs [dI,dN,dF] a1 a→(1≤i→a.tmps.getD dI undef=pI)→(1≤j→a.tmps.getD dN undef=pN)→(2≤j→a.tmps.getD dF undef=pF)→wpAny P .any ops QQ fuel listed a (WS W00 W10 W01 W11 i j):=by
  intro k
  induction k with
  | zero =>
    intro i j a listed fuel hi hj hk hf hL hb b1 b2 b3
    obtain rfl:i=2:=by omega
    obtain rfl:j=3:=by omega
    refine wpAny_done ?_ (hQ a hb (b1 (by omega)) (b2 (by omega)) (b3 (by omega))) fuel
    rw [List.eq_nil_iff_forall_not_mem]
    intro x hx
    obtain ⟨h1,q,hq,_⟩:=mem_ready.1 hx
    have hlt:x < n+6:=by rw [← hsz];exact (Array.getElem?_eq_some_iff.1 hq).1
    have:=(hL.2 x hlt).2 (by omega)
    rw [h1] at this;cases this
  | succ k ih =>
    intro i j a listed fuel hi hj hk hf hL hb b1 b2 b3
    obtain ⟨f,rfl⟩:∃ f,fuel=f+1:=⟨fuel - 1,by omega⟩
    have un:∀ x,x < n+6→¬ (x≤n∨(n+1≤x∧x < n+1+i)∨(n+3≤x∧x < n+3+j))→listed.getD x true=false:=fun x hx h=>by
      cases hb:listed.getD x true with
      | false=>rfl
      | true=>exact absurd ((hL.2 x hx).1 hb) h
    have li:∀ x,x < n+6→(x≤n∨(n+1≤x∧x < n+1+i)∨(n+3≤x∧x < n+3+j))→listed.getD x false=true:=fun x hx h=>by
      rw [hL.f hx];exact (hL.2 x hx).2 h
    have il:∀ x,x < n+6→listed.getD x false=true→(x≤n∨(n+1≤x∧x < n+1+i)∨(n+3≤x∧x < n+3+j)):=fun x hx h=>by
      rw [hL.f hx] at h;exact (hL.2 x hx).1 h
    refine ⟨fun hr=>?_,fun x hx=>?_⟩
    · exfalso
      have hno:∀ x o,ops[x]?=some o→listed.getD x true=false→(∀ e∈o.after,Region.binds .any e=true→listed.getD e.on false=true)→False:=fun x o h1 h2 h3=>by
        have:=mem_ready.2 ⟨h2,o,h1,h3⟩
        rw [hr] at this;cases this
      by_cases i0:i=0
      · exact hno _ _ gI (un _ (by omega) (by omega)) fun e he hbd=>by have:=eI e he hbd;exact li _ (by omega) (by omega)
      by_cases i1:i=1
      · exact hno _ _ gS (un _ (by omega) (by omega)) fun e he hbd=>by have:=eS e he hbd;exact li _ (by omega) (by omega)
      by_cases j0:j=0
      · exact hno _ _ gN (un _ (by omega) (by omega)) fun e he hbd=>by have:=eN e he hbd;exact li _ (by omega) (by omega)
      by_cases j1:j=1
      · exact hno _ _ gF (un _ (by omega) (by omega)) fun e he hbd=>by have:=eF e he hbd;exact li _ (by omega) (by omega)
      · exact hno _ _ gH (un _ (by omega) (by omega)) fun e he hbd=>by have:=eH e he hbd;exact li _ (by omega) (by omega)
    · obtain ⟨h1,o,ho,hdep⟩:=mem_ready.1 hx
      have hlt:x < n+6:=by rw [← hsz];exact (Array.getElem?_eq_some_iff.1 ho).1
      have hnot:¬ (x≤n∨(n+1≤x∧x < n+1+i)∨(n+3≤x∧x < n+3+j)):=fun h=>by
        have:=(hL.2 x hlt).2 h;rw [h1] at this;cases this
      have lis:∀ d,d∈[dI,dN,dF]→d < a.tmps.size:=fun d hd=>by
        rw [hb.sz]
        simp only [List.mem_cons,List.not_mem_nil,or_false] at hd
        rcases hd with rfl|rfl|rfl<;>assumption
      have mI:dI∈[dI,dN,dF]:=List.mem_cons_self
      have mN:dN∈[dI,dN,dF]:=List.mem_cons_of_mem _ List.mem_cons_self
      have mF:dF∈[dI,dN,dF]:=List.mem_cons_of_mem _ (List.mem_cons_of_mem _ List.mem_cons_self)
      have hcase:x=n+1∨x=n+2∨x=n+3∨x=n+4∨x=n+5:=by omega
      unfold wpOp
      rcases hcase with rfl|rfl|rfl|rfl|rfl
      · have i0:i=0:=by omega
        subst i0
        simp only [gI]
        rw [if_pos (zbW uI _)]
        refine .inl ?_
        unfold Oper.wp
        rw [hI a _ hb]
        show wpAny P .any ops QQ f _ (a.put oI.dst pI) (WS W00 W10 W01 W11 0 j)
        rw [dI_]
        have e:WS W00 W10 W01 W11 0 j=WS W00 W10 W01 W11 1 j:=by simp [WS]
        rw [e]
        exact ih 1 j _ _ f (by omega) hj (by omega) (by omega) (hL.set (by omega) (fun y hy=>by omega)) (hb.put mI pI) (fun _=>zee pI (lis dI mI)) (fun h=>(zbX pI (Ne.symm nIN)).trans (b2 h)) (fun h=>(zbX pI (Ne.symm nIF)).trans (b3 h))
      · have i1:i=1:=by
          rw [gS] at ho;injection ho with ho;subst ho
          obtain ⟨e,he,hbd,heq⟩:=cS
          have:=il (n+1) (by omega) (heq ▸ hdep e he hbd);omega
        subst i1
        simp only [gS]
        rw [if_pos (zbW uS _)]
        refine .inl ?_
        unfold Oper.wp
        rw [hS a j hb (b1 (by omega))]
        show wpAny P .any ops QQ f _ (a.put oS.dst undef) (WS W00 W10 W01 W11 2 j)
        rw [dS_]
        exact ih 2 j _ _ f (by omega) hj (by omega) (by omega) (hL.set (by omega) (fun y hy=>by omega)) hb (fun _=>b1 (by omega)) b2 b3
      · have j0:j=0:=by omega
        subst j0
        simp only [gN]
        rw [if_pos (zbW uN _)]
        refine .inl ?_
        unfold Oper.wp
        rw [hN a _ hb]
        show wpAny P .any ops QQ f _ (a.put oN.dst pN) (WS W00 W10 W01 W11 i 0)
        rw [dN_]
        have e:WS W00 W10 W01 W11 i 0=WS W00 W10 W01 W11 i 1:=by unfold WS;rfl
        rw [e]
        exact ih i 1 _ _ f hi (by omega) (by omega) (by omega) (hL.set (by omega) (fun y hy=>by omega)) (hb.put mN pN) (fun h=>(zbX pN nIN).trans (b1 h)) (fun _=>zee pN (lis dN mN)) (fun h=>absurd h (by omega))
      · have j1:j=1:=by
          rw [gF] at ho;injection ho with ho;subst ho
          obtain ⟨e,he,hbd,heq⟩:=cF
          have:=il (n+3) (by omega) (heq ▸ hdep e he hbd);omega
        subst j1
        simp only [gF]
        rw [if_pos (zbW uF _)]
        refine .inl ?_
        unfold Oper.wp
        rw [hF a _ hb (b2 (by omega))]
        show wpAny P .any ops QQ f _ (a.put oF.dst pF) (WS W00 W10 W01 W11 i 1)
        rw [dF_]
        have e:WS W00 W10 W01 W11 i 1=WS W00 W10 W01 W11 i 2:=by unfold WS;rfl
        rw [e]
        exact ih i 2 _ _ f hi (by omega) (by omega) (by omega) (hL.set (by omega) (fun y hy=>by omega)) (hb.put mF pF) (fun h=>(zbX pF nIF).trans (b1 h)) (fun _=>(zbX pF nNF).trans (b2 (by omega))) (fun _=>zee pF (lis dF mF))
      · have j2:j=2:=by
          rw [gH] at ho;injection ho with ho;subst ho
          obtain ⟨e,he,hbd,heq⟩:=cH
          have:=il (n+4) (by omega) (heq ▸ hdep e he hbd);omega
        subst j2
        simp only [gH]
        rw [if_pos (zbW uH _)]
        refine .inl ?_
        unfold Oper.wp
        rw [hH a i hb (b3 (by omega))]
        show wpAny P .any ops QQ f _ (a.put oH.dst undef) (WS W00 W10 W01 W11 i 3)
        rw [dH_]
        exact ih i 3 _ _ f hi (by omega) (by omega) (by omega) (hL.set (by omega) (fun y hy=>by omega)) hb b1 (fun _=>b2 (by omega)) (fun _=>b3 (by omega))
end
end Go.Proofs.YtiplihojmfbjkaaGreat
namespace Go.Proofs.YtiplihojmfbjkaaGreat
open Go.RowKit
section
variable {X:Ctx} {γ:Nat→Nat} {T:Nat→Value} {S:Nat→Nat→Prop} {w:World} {fr:Fr} {σ:Obs} {a:Act} {o:Oper}
theorem zjs (hT:Good X) {t ty e:TypeId} {k sz:Nat} {i ie:TyI} {rows news:List (List D)} (hr:Rel X γ T S w fr σ a) (hk:look σ k=some (.tok e sz)) {v xv:Value} (hv:RC γ T S w (.own k rows) v) (hx:RD S w (.sl news) xv)
    (hi:X.Ty t=some i) (hit:i.tag=2) (hie:i.elem=e) (he:X.Ty e=some ie) (hsz:ie.size=sz) (h1:sized sz rows=true) (h2:sized sz news=true) (hbd:(rows.length+news.length) * ie.bytes≤140737488355328) :
    ∃ v' w' S',(Builtin.append_ #[t,t] ty #[v,xv]).run X.P w=.ok v' w'∧(∃ xs',w'.ownsRow 0 e sz v' (rows.length+news.length) xs')∧w.grownBy w' (T k).ownBlock∧Kp S w w'∧(∀ g,v'.ownBlock=some g→(T k).ownBlock=some g∨w.heap.size≤g)∧
      (∀ b o,S b o→S' b o)∧(∀ b o,S' b o→S b o∨(v'.ownBlock=some b∧b < w'.heap.size))∧(∀ g,v'.ownBlock=some g→ ∀ o,S' g o→o < (rows.length+news.length) * sz)∧RD S' w' (.sl (rows++news)) v'∧
      (∀ g,v'.ownBlock=some g→ ∀ (i:Nat) (q:List D),rows[i]?=some q→ ∀ (j:Nat) (x:D),q[j]?=some x→ ∃ u,RD S w' x u∧w'.cell? ⟨g,i * sz+j,none⟩=some u)∧(∀ g,(T k).ownBlock=some g→ ∀ o,S g o→o < rows.length * sz):=by
  obtain ⟨inf,d0,g1,g2,g3,g4,g5,g6,g7,g8,g9,g10⟩:=(hT t i hi).get
  obtain ⟨inf',d',g1',g2',g3',g4',g5',_⟩:=(hT e ie he).get
  rw [hit] at g10
  cases d0 with
  | slice el =>
    simp only [elemOfD] at g7
    rw [hie] at g7;subst g7
    obtain ⟨xs,f1,f2⟩:=zgN (hr.st.obj k _ hk) hv
    have hzl:(if ie.agg=true then Value.agg ie.zero.toArray else ie.zero.headD undef).cells.size=sz:=by
      have hzl:=(hT el ie he).zlen
      split
      · simp [Value.cells,hzl,hsz]
      · have hp:=(hT el ie he).pos
        cases hz:ie.zero with
        | nil=>rw [hz] at hzl;simp at hzl;omega
        | cons u us =>
          have h1c:u.oneCell'=true:=by have:=(hT el ie he).z1;rw [hz] at this;simp only [List.all_cons,Bool.and_eq_true] at this;exact this.1
          rename_i hna
          simp only [List.headD_cons,cells1v h1c]
          have hsc:ie.size=1:=by
            have:=(hT el ie he).sca
            exact this (by simpa using hna)
          rw [← hsz,hsc];rfl
    obtain ⟨v',w',S',r1,r2,r3,r4,r5,r6,r7,r8,r9,r10,_⟩:=zfv (P:=X.P) (t:=t) (ty:=ty) g2 g1' g5' (g3'.trans hsz) g4' hzl (by rw [← hsz];exact (hT el ie he).pos) xs f1 hv.1 h1 hx h2 hbd (hT el ie he).bpos f2 hr.st.lt
    rw [← hv.2] at r3 r5 f2
    exact ⟨v',w',S',r1,r2,r3,r4,r5,r6,r7,r8,r9,r10,f2⟩
  | _=>simp [tagOf] at g10
theorem zjn (w:World) (a b:Nat) (x y:Array Value) (h:a≠b):(w.setRow a x).setRow b y=(w.setRow b y).setRow a x:=by
  unfold World.setRow
  congr 1
  apply Array.ext_getElem?
  intro i
  simp only [Array.getElem?_modify]
  by_cases h1:b=i
  · by_cases h2:a=i
    · exact absurd (h2.trans h1.symm) h
    · simp [h1,h2]
  · simp [h1]
theorem znR {e:TypeId} {k sz g cap:Nat} {rows:List (List D)} {Z cs:List D} {v':Value} {w':World} {S':Nat→Nat→Prop} {us:List Value} (hr:Rel X γ T S w fr σ a) (hv':v'=.slice (some ⟨g,0,none⟩) (rows.length+1) cap) {cur:Array Value}
    (hg:w'.heap[g]?=some (.cells cur e (0,0))) (hlim:rows.length+1≤281474976710656) (hcap:rows.length+1≤cap) (hcm:cap≤maxLen) (hcur:cur.size=cap * sz) (h1:sized sz rows=true) (hZ:Z.length=sz) (hcs:cs.length=sz) (hus:RDL S w cs us)
    (r3:w.grownBy w' (T k).ownBlock) (r4:Kp S w w') (r5:∀ g,v'.ownBlock=some g→(T k).ownBlock=some g∨w.heap.size≤g) (r6:∀ b o,S b o→S' b o) (r7:∀ b o,S' b o→S b o∨(v'.ownBlock=some b∧b < w'.heap.size))
    (r9:RD S' w' (.sl (rows++[Z])) v') (r10:∀ g,v'.ownBlock=some g→ ∀ (i:Nat) (q:List D),rows[i]?=some q→ ∀ (j:Nat) (x:D),q[j]?=some x→ ∃ u,RD S w' x u∧w'.cell? ⟨g,i * sz+j,none⟩=some u) (r11:∀ g,(T k).ownBlock=some g→ ∀ o,S g o→o < rows.length * sz)
    {cE:Array Value} (hcE:cE=(cur.toList.take (rows.length * sz)++us++cur.toList.drop (rows.length * sz+us.length)).toArray) :
    (∃ xs,(w'.setRow g cE).ownsRow 0 e sz v' (rows++[cs]).length xs)∧w.grownBy (w'.setRow g cE) (T k).ownBlock∧Kp S w (w'.setRow g cE)∧(∀ b o,S' b o→S b o∨(v'.ownBlock=some b∧b < (w'.setRow g cE).heap.size))∧RD S' (w'.setRow g cE) (.sl (rows++[cs])) v':=by
  have hob:v'.ownBlock=some g:=by rw [hv'];rfl
  have hul:us.length=sz:=hus.1.trans hcs
  have hle:(rows.length+1) * sz≤cap * sz:=Nat.mul_le_mul_right _ hcap
  have hmul:(rows.length+1) * sz=rows.length * sz+sz:=by rw [Nat.add_mul,Nat.one_mul]
  have hcl:cur.toList.length=cap * sz:=by simpa using hcur
  have htl:(cur.toList.take (rows.length * sz)).length=rows.length * sz:=by rw [List.length_take];omega
  have hE:∀ i,cE[i]?=(cur.toList.take (rows.length * sz)++us++cur.toList.drop (rows.length * sz+us.length))[i]?:=fun i=>by rw [hcE,List.getElem?_toArray]
  have hlow:∀ i,i < rows.length * sz→cE[i]?=cur[i]?:=fun i hi=>by
    rw [hE,List.append_assoc,List.getElem?_append_left (by rw [htl];exact hi),List.getElem?_take,if_pos hi];simp
  have hmid:∀ j,j < sz→cE[rows.length * sz+j]?=us[j]?:=fun j hj=>by
    rw [hE,List.append_assoc,List.getElem?_append_right (by rw [htl];omega),htl,List.getElem?_append_left (by omega)]
    congr 1;omega
  have hsE:cE.size=cap * sz:=by
    rw [hcE]
    simp only [List.size_toArray,List.length_append,List.length_drop,htl,hul,hcl]
    omega
  have hgW:(w'.setRow g cE).heap[g]?=some (.cells cE e (0,0)):=setRow_heap w' g cur cE e (0,0) hg
  have hSg:∀ o,S g o→o < rows.length * sz:=fun o hs=>by
    rcases r5 g hob with h|h
    · exact r11 g h o hs
    · have:=hr.st.lt g o hs;omega
  have hKp':Kp S w' (w'.setRow g cE):=fun b o x hs hc=>by
    by_cases hb:b=g
    · subst hb
      rw [cell_of_row _ _ _ _ _ _ hgW,hlow o (hSg o hs),← cell_of_row _ _ _ _ _ _ hg];exact hc
    · rw [cell_setRow_other w' g cE ⟨b,o,none⟩ hb];exact hc
  have hKp:Kp S w (w'.setRow g cE):=r4.trans fun b o x hs hc=>hKp' b o x hs hc
  have hl2:(rows++[cs]).length=rows.length+1:=by simp
  have hsz2:sized sz (rows++[Z])=true:=by
    unfold sized at h1 ⊢
    rw [List.all_append,h1,Bool.true_and,List.all_cons,List.all_nil,Bool.and_true,hZ,Nat.beq_refl]
  refine ⟨⟨cE.toList.take ((rows.length+1) * sz),?_,.inr ⟨g,cap,cE,by rw [hl2];exact hv',Nat.zero_le _,hgW,by rw [hl2];exact hcap,hcm,hsE,by rw [hl2]⟩⟩,⟨r3.os,r3.tape,r3.output,by simpa [World.setRow] using r3.size,fun b hb hne=>?_⟩,hKp,fun b o hs=>?_,?_⟩
  · rw [hl2,List.length_take];simp only [Array.length_toList,hsE];omega
  · rw [setRow_other w' g b cE (fun e=>?_)]
    · exact r3.block b hb hne
    · subst e
      rcases r5 b hob with h|h
      · exact hne h.symm
      · omega
  · rcases r7 b o hs with h|h
    · exact .inl h
    · exact .inr ⟨h.1,by simpa [World.setRow] using h.2⟩
  · obtain ⟨A,c,vs,e0,hc,hnil,hval,hspot,hmem⟩:=r9.rows hsz2
    rw [hv'] at e0
    injection e0 with eA eL eC
    subst eA;subst eC
    have hZl:(rows++[Z]).length=rows.length+1:=by simp
    have key:RD S' (w'.setRow g cE) (.sl (rows++[cs])) (.slice (some ⟨g,0,none⟩) (rows++[cs]).length cap):=by
      refine .sl (rows++[cs]) _ cap sz (fun i j=>((w'.setRow g cE).cell? ⟨g,i * sz+j,none⟩).getD undef) (by omega) (by omega) (fun h=>by cases h) (fun i q hq=>?_) (fun i q hq j x hx=>?_) (fun ad h _=>by cases h;rfl) fun ad h i hi j hj=>?_
      · by_cases hlt:i < rows.length
        · rw [List.getElem?_append_left hlt] at hq;exact zbc h1 hq
        · rw [List.getElem?_append_right (by omega)] at hq
          obtain rfl:=List.mem_singleton.1 (List.mem_of_getElem? hq);exact hcs
      · by_cases hlt:i < rows.length
        · rw [List.getElem?_append_left hlt] at hq
          obtain ⟨u,hu1,hu2⟩:=r10 g hob i q hq j x hx
          have hj:j < sz:=by rw [← zbc h1 hq];exact (List.getElem?_eq_some_iff.1 hx).1
          have hij:i * sz+j < rows.length * sz:=by
            have:(i+1) * sz≤rows.length * sz:=Nat.mul_le_mul_right _ hlt
            rw [Nat.add_mul] at this;omega
          have e1:(w'.setRow g cE).cell? ⟨g,i * sz+j,none⟩=some u:=by
            rw [cell_of_row _ _ _ _ _ _ hgW,hlow _ hij,← cell_of_row _ _ _ _ _ _ hg];exact hu2
          simp only [e1,Option.getD_some]
          exact hu1.mono r6 hKp'
        · rw [List.getElem?_append_right (by omega)] at hq
          have hi0:i=rows.length:=by
            have:=(List.getElem?_eq_some_iff.1 hq).1
            simp only [List.length_singleton] at this;omega
          obtain rfl:=List.mem_singleton.1 (List.mem_of_getElem? hq)
          subst hi0
          obtain ⟨u,hu1,hu2⟩:=hus.2 j x hx
          have hj:j < sz:=by rw [← hcs];exact (List.getElem?_eq_some_iff.1 hx).1
          have e1:(w'.setRow g cE).cell? ⟨g,rows.length * sz+j,none⟩=some u:=by
            rw [cell_of_row _ _ _ _ _ _ hgW,hmid j hj,hu1]
          simp only [e1,Option.getD_some]
          exact hu2.mono r6 hKp
      · cases h
        rw [hl2] at hi
        have h3:=(hmem _ rfl i (by rw [hZl];exact hi) j hj).1
        refine ⟨h3,?_⟩
        simp only [Nat.zero_add]
        have hin:i * sz+j < cE.size:=by
          rw [hsE]
          have:(i+1) * sz≤(rows.length+1) * sz:=Nat.mul_le_mul_right _ hi
          rw [Nat.add_mul i,Nat.one_mul] at this;omega
        rw [cell_of_row _ _ _ _ _ _ hgW,Array.getElem?_eq_getElem hin];rfl
    rw [hl2] at key
    rw [hv'];exact key
end
end Go.Proofs.YtiplihojmfbjkaaGreat
