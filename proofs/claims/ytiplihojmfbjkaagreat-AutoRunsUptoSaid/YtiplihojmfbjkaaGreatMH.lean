/- The step for such a region: see MF. -/
import Derived.Test.YtiplihojmfbjkaaGreatMF
namespace Go.Proofs.YtiplihojmfbjkaaGreat
open Go.RowKit
def edgesIn (o:Oper) (p:Nat→Bool):Bool:=o.after.all fun e=>!Region.binds .any e || p e.on
theorem zca {o:Oper} {p:Nat→Bool} (h:edgesIn o p=true):∀ e∈o.after,Region.binds .any e=true→p e.on=true:=fun e he hb=>by
  unfold edgesIn at h
  rw [Array.all_eq_true_iff_forall_mem] at h
  have:=h e he
  rw [hb] at this;simpa using this
def bigOk (n:Nat) (oA oI oS oN oF oH:Oper):Bool :=
  oA.guard.isNone&&oI.guard.isNone&&oS.guard.isNone&&oN.guard.isNone&&oF.guard.isNone&&oH.guard.isNone &&
  edgesIn oA (fun i=>decide (i < n))&&edgesIn oI (fun i=>decide (i≤n))&&edgesIn oS (fun i=>decide (i≤n+1))&&edgesIn oN (fun i=>decide (i≤n))&&edgesIn oF (fun i=>decide (i≤n∨i=n+3))&&edgesIn oH (fun i=>decide (i≤n∨i=n+3∨i=n+4)) &&
  onO oI n&&onO oS (n+1)&&onO oN n&&onO oF (n+3)&&onO oH (n+4)
section
variable {X:Ctx} {fr:Fr} {σ:Obs} {l:List Oper} {oA oI oS oN oF oH:Oper} {dA dI dN dF tS tX tI tV tP:Nat} {t e tO ty0:TypeId} {f off k k0 sz:Nat} {ti ie i0:TyI} {rows:List (List D)} {Z cs:List D} {c0:List C} {QQ:Exit→Fr→Obs→Prop}
def tailFr (fr:Fr) (dA dI dN dF k0 off:Nat) (rs:List (List D)):Fr:=(dF,.one (.po k0 off)) :: (dN,.one (.po k0 0)) :: (dI,.junk) :: (dA,.one (.own dA rs)) :: stripF dA fr
def tailOb (σ:Obs) (dA k k0 off:Nat) (ty0 e:TypeId) (sz:Nat) (c0:List C) (rs:List (List D)):Obs:=(k0,.obj ty0 ((stripL dA c0).set off (.own dA rs))) :: (dA,.tok e sz) :: stripS dA ((k,.junk) :: σ)
theorem zmG (hT:Good X) (hb:bigOk l.length oA oI oS oN oF oH=true)
    (oA_:oA.op=.call { callee:=.builtin .append,args := #[.tmp tS,.tmp tX],argTypes := #[t,t] }) (dA_:oA.dst=some dA) (oI_:oI.op=.indexAddr t (.tmp dA) (.tmp tI)) (dI_:oI.dst=some dI) (oS_:oS.op=.store e (.tmp dI) (.tmp tV)) (dS_:oS.dst=none)
    (oN_:oN.op=.nilCheck (.tmp tP)) (dN_:oN.dst=some dN) (oF_:oF.op=.fieldAddr tO (.tmp dN) f) (dF_:oF.dst=some dF) (oH_:oH.op=.store t (.tmp dF) (.tmp dA)) (dH_:oH.dst=none)
    (lA:dA < X.nt) (lI:dI < X.nt) (lN:dN < X.nt) (lF:dF < X.nt) (nAI:dA≠dI) (nAN:dA≠dN) (nAF:dA≠dF) (nIN:dI≠dN) (nIF:dI≠dF) (nNF:dN≠dF) (nI:∀ d∈[dA,dI,dN,dF],tI≠d∧tV≠d∧tP≠d)
    (hs:look fr tS=some (.one (.own k rows))) (hk:look σ k=some (.tok e sz)) (hx:(look fr tX).bind rowsV=some [Z]) (hi:X.Ty t=some ti) (hit:ti.tag=2) (hie:ti.elem=e) (his:ti.size=1) (he:X.Ty e=some ie) (hsz:ie.size=sz) (h1:sized sz rows=true) (hZ:Z.length=sz) (hbd:(rows.length+1) * ie.bytes≤140737488355328)
    (hix:look fr tI=some (.one (.d (.v (.int .i64 (rows.length:Int)))))) (hv:look fr tV=some (.dat cs)) (hcs:cs.length=sz) (hp:look fr tP=some (.one (.po k0 0))) (hk0:look σ k0=some (.obj ty0 c0)) (hkk:k0≠k) (hkA:k0≠dA) (hi0:X.Ty tO=some i0) (htag:i0.tag=1) (hpl:i0.places[f]?=some (off,1)) (hoff:off < c0.length)
    (h:RL X #[] [] (tailFr fr dA dI dN dF k0 off (rows++[cs])) (tailOb σ dA k k0 off ty0 e sz c0 (rows++[cs])) (QQ .normal)):TailOk X l [oA,oI,oS,oN,oF,oH] fr σ (LQ X QQ):=by
  intro γ T S w a listed fuel hr hlsz hlist hun hfu
  simp only [bigOk,Bool.and_eq_true,Option.isNone_iff_eq_none] at hb
  obtain ⟨⟨⟨⟨⟨⟨⟨⟨⟨⟨⟨⟨⟨⟨⟨⟨uA,uI⟩,uS⟩,uN⟩,uF⟩,uH⟩,eA⟩,eI⟩,eS⟩,eN⟩,eF⟩,eH⟩,cI⟩,cS⟩,cN⟩,cF⟩,cH⟩:=hb
  have eA:=zca eA
  have eI:=zca eI
  have eS:=zca eS
  have eN:=zca eN
  have eF:=zca eF
  have eH:=zca eH
  simp only [decide_eq_true_eq] at eA eI eS eN eF eH
  have cI:=zbo cI
  have cS:=zbo cS
  have cN:=zbo cN
  have cF:=zbo cF
  have cH:=zbo cH
  have hlen:(l++[oA,oI,oS,oN,oF,oH]).length=l.length+6:=by rw [List.length_append];rfl
  have gT:∀ j,(l++[oA,oI,oS,oN,oF,oH]).toArray[l.length+j]?=[oA,oI,oS,oN,oF,oH][j]?:=fun j=>by
    rw [List.getElem?_toArray,List.getElem?_append_right (by omega)];congr 1;omega
  have hosz:(l++[oA,oI,oS,oN,oF,oH]).toArray.size=l.length+6:=by rw [List.size_toArray];exact hlen
  -- what is appended
  have hvS:=hr.fr tS _ hs
  obtain ⟨xV,hx1,hx2⟩:=Option.bind_eq_some_iff.1 hx
  have hvX:=zaR hx2 (hr.fr tX _ hx1)
  have hvS:RC γ T S w (.own k rows) (a.tmps.getD tS undef):=by cases hvS with|one h=>exact h
  obtain ⟨v',w',S',r1,⟨xs',r2⟩,r3,r4,r5,r6,r7,r8,r9,r10,r11⟩:=zjs (ty:=oA.type) hT hr hk hvS hvX hi hit hie he hsz h1 (by unfold sized;rw [List.all_cons,List.all_nil,Bool.and_true,hZ,Nat.beq_refl]) hbd
  rcases r2.2 with ⟨_,h0⟩ | ⟨g,cap,cur,hv',_,hg,hcap,hcm,hcur,_⟩
  · simp only [List.length_singleton] at h0;omega
  simp only [List.length_singleton] at hv' hcap
  have hob:v'.ownBlock=some g:=by rw [hv'];rfl
  obtain ⟨inf,d0,g1,g2,g3,g4,g5,g6,g7,g8,g9,g10⟩:=(hT t ti hi).get
  obtain ⟨inf',d',g1',g2',g3',g4',g5',_⟩:=(hT e ie he).get
  have hbp:=(hT e ie he).bpos
  have hlim:rows.length+1≤281474976710656:=by
    have:=Nat.le_trans (Nat.le_mul_of_pos_right (rows.length+1) hbp) hbd;omega
  rw [hit] at g10
  obtain ⟨el,rfl⟩:∃ el,d0=.slice el:=by cases d0<;>first|exact ⟨_,rfl⟩|simp [tagOf] at g10
  simp only [elemOfD] at g7
  rw [hie] at g7;subst g7
  -- the struct
  obtain ⟨us0,q1,⟨q2,q3⟩,q4,q5,q6⟩:=hr.st.obj k0 _ hk0
  have hltk:γ k0 < w.heap.size:=(Array.getElem?_eq_some_iff.1 q1).1
  have hne:γ k0≠g:=fun e=>by
    rcases r5 g hob with h|h
    · exact hr.st.dis k0 k _ _ hk0 hk hkk g e.symm h
    · omega
  have q1':w'.heap[γ k0]?=some (.cells us0.toArray ty0 (0,0)):=(r3.block _ hltk (fun e=>hr.st.dis k0 k _ _ hk0 hk hkk (γ k0) rfl e.symm)).trans q1
  -- the value
  have hvV:=hr.fr tV _ hv
  generalize hvv:a.tmps.getD tV undef=vv at hvV
  cases hvV with
  | @dat _ us hus =>
  have hul:us.length=sz:=hus.1.trans hcs
  have hul1:=hus.all1
  have hv1:v'.oneCell'=true:=by rw [hv'];rfl
  have hc1:v'.cells = #[v']:=cells1v hv1
  obtain ⟨cE,hcE⟩:∃ cE:Array Value,cE=(cur.toList.take (rows.length * sz)++us++cur.toList.drop (rows.length * sz+us.length)).toArray:=⟨_,rfl⟩
  obtain ⟨cH',hcH⟩:∃ cH:Array Value,cH=(us0.take off++[v']++us0.drop (off+1)).toArray:=⟨_,rfl⟩
  have hmul:(rows.length+1) * sz=rows.length * sz+sz:=by rw [Nat.add_mul,Nat.one_mul]
  have hle:(rows.length+1) * sz≤cap * sz:=Nat.mul_le_mul_right _ hcap
  have stE:∀ W:World,W.heap[g]?=some (.cells cur el (0,0))→(storeVar el ⟨g,0+rows.length * sz,none⟩ (.agg us.toArray)).run X.P W=.ok () (W.setRow g cE):=fun W hW=>by
    have:=run_storeCells_at X.P g (0+rows.length * sz) el us 0 cur W hW (by rw [hul];omega) hul1
    simp only [Nat.add_zero,Nat.zero_add] at this
    have hszc:(Value.agg us.toArray).cells.size=inf'.size:=by rw [g3',hsz,← hul];simp [Value.cells]
    simp only [storeVar,Sem.run_bind,zaP g1',Result.andThen_ok,hszc,ne_eq,not_true,if_false,Nat.zero_add]
    rw [hcE]
    simpa [Value.cells] using this
  have stH:∀ W:World,W.heap[γ k0]?=some (.cells us0.toArray ty0 (0,0))→(storeVar t ⟨γ k0,0+off,none⟩ v').run X.P W=.ok () (W.setRow (γ k0) cH'):=fun W hW=>by
    have:=run_storeCells_at X.P (γ k0) (0+off) ty0 [v'] 0 us0.toArray W hW (by simp;omega) (by simpa using hv1)
    simp only [Nat.add_zero,Nat.zero_add,List.length_singleton] at this
    have hszc:v'.cells.size=inf.size:=by rw [g3,his,hc1];rfl
    simp only [storeVar,Sem.run_bind,zaP g1,Result.andThen_ok,hszc,ne_eq,not_true,if_false,Nat.zero_add]
    rw [hcH,hc1]
    exact this
  have hcomm:(w'.setRow (γ k0) cH').setRow g cE=(w'.setRow g cE).setRow (γ k0) cH':=zjn _ _ _ _ _ hne
  obtain ⟨p1,p2,p3,p4,p5⟩:=znR hr hv' hg hlim hcap hcm hcur h1 hZ hcs hus r3 r4 r5 r6 r7 r9 r10 r11 hcE
  obtain ⟨t1,t2⟩:=hr.append (d:=dA) (w':=w'.setRow g cE) (S':=S') (rows':=rows++[cs]) (v':=v') hk p1 p2 p3 r5 r6 p4 (by rw [List.length_append];exact r8) p5
  have hlk:look ((dA,Ob.tok el sz) :: stripS dA ((k,.junk) :: σ)) k0=some (.obj ty0 (stripL dA c0)):=by
    rw [zap,if_neg (Ne.symm hkA),zar,zap,if_neg (Ne.symm hkk),hk0,Option.map_some,if_neg hkA];rfl
  have qW:(w'.setRow g cE).heap[γ k0]?=some (.cells us0.toArray ty0 (0,0)):=(setRow_other w' g _ cE hne).trans q1'
  obtain ⟨us1,y1,⟨y2,y3⟩,y4,y5,y6⟩:=t1.st.obj k0 _ hlk
  have hus1:us1=us0:=by
    rw [qW] at y1
    injection y1 with y1;injection y1 with y1
    have:=congrArg Array.toList y1;simpa using this.symm
  subst hus1
  have hKpH:Kp S' (w'.setRow g cE) ((w'.setRow g cE).setRow (γ k0) cH'):=.row _ y4
  have hro:RO X γ (setK T dA v') S' ((w'.setRow g cE).setRow (γ k0) cH') k0 (.obj ty0 ((stripL dA c0).set off (.own dA (rows++[cs])))):=by
    have hlen0:off < us1.length:=by rw [y2];simpa [stripL] using hoff
    have hset:us1.take off++[v']++us1.drop (off+1)=us1.set off v':=by
      rw [List.set_eq_take_append_cons_drop,if_pos hlen0];simp
    refine ⟨us1.set off v',by rw [← hset,← hcH];exact setRow_heap _ _ _ _ _ _ qW,⟨by simp only [List.length_set];exact y2,fun j c hc=>?_⟩,y4,y5,y6⟩
    by_cases ej:off=j
    · subst ej
      rw [List.getElem?_set_self (by simpa [stripL] using hoff)] at hc
      injection hc with hc;subst hc
      refine ⟨v',by rw [List.getElem?_set_self hlen0],?_,hv1⟩
      cases t2 with|one t2=>exact RC.mono (c:=.own dA (rows++[cs])) (fun _ _ h=>h) hKpH t2
    · rw [List.getElem?_set_ne ej] at hc
      obtain ⟨u,z1,z2,z3⟩:=y3 j c hc
      exact ⟨u,by rw [List.getElem?_set_ne ej];exact z1,z2.mono (fun _ _ h=>h) hKpH,z3⟩
  have t3:=t1.write (ob':=.obj ty0 ((stripL dA c0).set off (.own dA (rows++[cs])))) hlk (fun b=>Iff.rfl) (fun b hb=>hb) y4 cH' hro
  have t4:RV γ (setK T dA v') S' ((w'.setRow g cE).setRow (γ k0) cH') (.one (.own dA (rows++[cs]))) v':=t2.mono (fun _ _ h=>h) hKpH
  have t5:=t3.put (dst:=some dA) (show inF X.nt (some dA)=true by simpa [inF,Nat.blt_eq] using lA) t4
  have hat:a.tmps.size=X.nt:=hr.nt
  have hasz:(a.put (some dA) v').tmps.size=X.nt:=by simp [Act.put,hat]
  have evA:∀ a',Bs [dI,dN,dF] (a.put (some dA) v') a'→a'.tmps.getD dA undef=v':=fun a' h=>by
    rw [h.tm dA (by simp [nAI,nAN,nAF])];exact zee v' (by omega)
  have evO:∀ a' x,(∀ d∈[dA,dI,dN,dF],x≠d)→Bs [dI,dN,dF] (a.put (some dA) v') a'→a'.tmps.getD x undef=a.tmps.getD x undef:=fun a' x hx h=>by
    rw [h.tm x (fun hm=>hx x (List.mem_cons_of_mem _ hm) rfl)]
    exact zbX v' (hx dA List.mem_cons_self)
  have hvI:=zaw (hr.fr tI _ hix)
  have hvP:a.tmps.getD tP undef=.pointer (some ⟨γ k0,0,none⟩):=by
    have:=hr.fr tP _ hp
    cases this with|one h=>exact h
  have tail:=tail5 (P:=X.P) (ops:=(l++[oA,oI,oS,oN,oF,oH]).toArray) (QQ:=LQ X QQ) (n:=l.length) (a1:=a.put (some dA) v') (pI:=.pointer (some ⟨g,0+rows.length * sz,none⟩)) (pN:=.pointer (some ⟨γ k0,0,none⟩)) (pF:=.pointer (some ⟨γ k0,0+off,none⟩)) (W00:=w') (W10:=w'.setRow g cE) (W01:=w'.setRow (γ k0) cH') (W11:=(w'.setRow g cE).setRow (γ k0) cH')
    hosz (gT 1) (gT 2) (gT 3) (gT 4) (gT 5) eI eS cS eN eF cF eH cH uI uS uN uF uH dI_ dS_ dN_ dF_ dH_ (by omega) (by omega) (by omega) nIN nIF nNF
    (fun a' W hB=>by
      have e1:a'.eval (.tmp dA)=.slice (some ⟨g,0,none⟩) (rows.length+1) cap:=(evA a' hB).trans hv'
      have e2:a'.eval (.tmp tI)=.int .i64 (rows.length:Int):=(evO a' tI (fun d hd=>(nI d hd).1) hB).trans hvI
      simp only [execOp,oI_,e1,e2,Instr.indexAt,asIntOf,Sem.run_bind,Sem.run_pure,run_underlying g2,Result.andThen_ok]
      rw [if_pos (by omega)]
      simp only [Sem.run_bind,zaP g1',Result.andThen_ok,Sem.run_pure,Addr.add_lit,g3',hsz,Int.toNat_natCast])
    (fun a' j hB hI=>by
      have e1:a'.eval (.tmp dI)=.pointer (some ⟨g,0+rows.length * sz,none⟩):=hI
      have e2:a'.eval (.tmp tV)=.agg us.toArray:=(evO a' tV (fun d hd=>(nI d hd).2.1) hB).trans hvv
      by_cases hj:j=3
      · subst hj
        have hW:(w'.setRow (γ k0) cH').heap[g]?=some (.cells cur el (0,0)):=(setRow_other w' (γ k0) g cH' (Ne.symm hne)).trans hg
        have h5:=stE _ hW
        simp only [WS]
        rw [← hcomm]
        simp only [execOp,oS_,e1,e2,Instr.storeAt,Instr.sureAddr,Sem.run_bind,Sem.run_pure,Result.andThen_ok,h5,if_false,if_true,Nat.reduceEqDiff]
      · have h5:=stE w' hg
        simp only [WS,if_neg hj]
        simp only [execOp,oS_,e1,e2,Instr.storeAt,Instr.sureAddr,Sem.run_bind,Sem.run_pure,Result.andThen_ok,h5,if_false,if_true,Nat.reduceEqDiff])
    (fun a' W hB=>by
      have e1:a'.eval (.tmp tP)=.pointer (some ⟨γ k0,0,none⟩):=(evO a' tP (fun d hd=>(nI d hd).2.2) hB).trans hvP
      simp only [execOp,oN_,e1,Sem.run_pure])
    (fun a' W hB hN=>by
      have e1:a'.eval (.tmp dN)=.pointer (some ⟨γ k0,0,none⟩):=hN
      have h5:=zfh hT hi0 htag hpl (by omega) W (γ k0) 0
      simp only [execOp,oF_,e1,Sem.run_bind,h5,Result.andThen_ok,Sem.run_pure])
    (fun a' i hB hF=>by
      have e1:a'.eval (.tmp dF)=.pointer (some ⟨γ k0,0+off,none⟩):=hF
      have e2:a'.eval (.tmp dA)=v':=evA a' hB
      by_cases hi2:i=2
      · subst hi2
        have h5:=stH _ qW
        simp only [WS]
        simp only [execOp,oH_,e1,e2,Instr.storeAt,Instr.sureAddr,Sem.run_bind,Sem.run_pure,Result.andThen_ok,h5,if_false,if_true,Nat.reduceEqDiff]
      · have h5:=stH w' q1'
        simp only [WS,if_neg hi2]
        simp only [execOp,oH_,e1,e2,Instr.storeAt,Instr.sureAddr,Sem.run_bind,Sem.run_pure,Result.andThen_ok,h5,if_false,if_true,Nat.reduceEqDiff])
    (fun a' hB hI hN hF=>h.out γ (setK T dA v') S' _ a' (LQ X QQ) ⟨t5.st,fun x y hxy=>by
      unfold tailFr at hxy
      rw [zap] at hxy
      split at hxy
      · rename_i e;injection hxy with hxy;subst hxy;subst e;rw [hF];exact .one (by simp only [RC,Nat.zero_add])
      rename_i n1
      rw [zap] at hxy
      split at hxy
      · rename_i e;injection hxy with hxy;subst hxy;subst e;rw [hN];exact .one rfl
      rename_i n2
      rw [zap] at hxy
      split at hxy
      · rename_i e;injection hxy with hxy;subst hxy;exact .junk _
      rename_i n3
      rw [hB.tm x (by simp [Ne.symm n1,Ne.symm n2,Ne.symm n3])]
      exact t5.fr x y hxy,hB.sz.trans hasz,hB.df.trans t5.df⟩ fun γ T S w a fr σ hr hq=>⟨γ,T,S,fr,σ,hr,hq⟩)
  -- the append itself
  obtain ⟨f',rfl⟩:∃ f',fuel=f'+1:=⟨fuel - 1,by simp only [List.length_cons,List.length_nil] at hfu;omega⟩
  have hunl:∀ x,x < l.length+6→l.length≤x→listed.getD x false=false:=fun x h1 h2=>by
    have h3:=hun x h2 (by omega)
    have h4:x < listed.size:=by omega
    simp only [Array.getD,h4,dif_pos] at h3 ⊢;exact h3
  have hnr:∀ x o,(l++[oA,oI,oS,oN,oF,oH]).toArray[x]?=some o→x∈Region.ready .any (l++[oA,oI,oS,oN,oF,oH]).toArray listed→x=l.length:=fun x o ho hx=>by
    obtain ⟨hu,o',ho',hd⟩:=mem_ready.1 hx
    have hlt:x < l.length+6:=by rw [← hosz];exact (Array.getElem?_eq_some_iff.1 ho').1
    have hge:l.length≤x:=by
      refine Classical.byContradiction fun hh=>?_
      rw [hlist x (by omega)] at hu;cases hu
    have no:∀ (q:Oper) (m:Nat),(∃ e∈q.after,Region.binds .any e=true∧e.on=m)→l.length≤m→m < l.length+6→o'≠q:=fun q m hq h1 h2 heq=>by
      subst heq
      obtain ⟨ee,he1,he2,he3⟩:=hq
      have:=hd ee he1 he2
      rw [he3,hunl m h2 h1] at this;cases this
    obtain ⟨j,rfl⟩:∃ j,x=l.length+j:=⟨x - l.length,by omega⟩
    rw [gT] at ho'
    match j,ho' with
    | 0,_=>rfl
    | 1,h=>injection h with h;exact absurd h.symm (no oI _ cI (by omega) (by omega))
    | 2,h=>injection h with h;exact absurd h.symm (no oS _ cS (by omega) (by omega))
    | 3,h=>injection h with h;exact absurd h.symm (no oN _ cN (by omega) (by omega))
    | 4,h=>injection h with h;exact absurd h.symm (no oF _ cF (by omega) (by omega))
    | 5,h=>injection h with h;exact absurd h.symm (no oH _ cH (by omega) (by omega))
    | j+6,_=>omega
  have hA0:l.length∈Region.ready .any (l++[oA,oI,oS,oN,oF,oH]).toArray listed:=mem_ready.2 ⟨hun _ (Nat.le_refl _) (by omega),oA,gT 0,fun e he hb=>by
    have h3:=eA e he hb
    have h4:e.on < listed.size:=by omega
    have h5:=hlist _ h3
    simp only [Array.getD,h4,dif_pos] at h5 ⊢;exact h5⟩
  refine ⟨fun hr0=>(by rw [hr0] at hA0;cases hA0),fun x hx=>?_⟩
  obtain ⟨_,o',ho',_⟩:=mem_ready.1 hx
  obtain rfl:=hnr x o' ho' hx
  unfold wpOp
  have gA:(l++[oA,oI,oS,oN,oF,oH]).toArray[l.length]?=some oA:=gT 0
  simp only [gA]
  rw [if_pos (zbW uA _)]
  refine .inl ?_
  unfold Oper.wp
  rw [zbA oA_ r1]
  show wpAny X.P .any _ (LQ X QQ) f' _ (a.put oA.dst v') w'
  rw [dA_]
  refine tail 5 0 0 _ _ f' (by omega) (by omega) (by omega) (by simp only [List.length_cons,List.length_nil] at hfu;omega) ⟨by simpa using (show listed.size=l.length+6 by omega),fun x hx=>?_⟩ ⟨fun _ _=>rfl,rfl,rfl⟩ (fun h=>absurd h (by omega)) (fun h=>absurd h (by omega)) (fun h=>absurd h (by omega))
  by_cases ex:l.length=x
  · subst ex
    have:l.length < listed.size:=by omega
    simp [this]
  · rw [getD_set_ne true ex]
    by_cases hlx:x < l.length
    · rw [hlist x hlx];exact ⟨fun _=>.inl (by omega),fun _=>rfl⟩
    · rw [hun x (by omega) (by omega)]
      exact ⟨fun h=>(by cases h),fun h=>by omega⟩
end
end Go.Proofs.YtiplihojmfbjkaaGreat
namespace Go.Proofs.YtiplihojmfbjkaaGreat
open Go.RowKit
def split6 (l:List Oper):Option (List Oper × Oper × Oper × Oper × Oper × Oper × Oper):=match splitLast l with
  | some (l5,o5)=>match splitLast l5 with
    | some (l4,o4)=>match splitLast l4 with
      | some (l3,o3)=>match splitLast l3 with
        | some (l2,o2)=>match splitLast l2 with
          | some (l1,o1)=>match splitLast l1 with
            | some (l0,o0)=>some (l0,o0,o1,o2,o3,o4,o5)
            | none=>none
          | none=>none
        | none=>none
      | none=>none
    | none=>none
  | none=>none
theorem zlV {l1 l:List Oper} {a b c d e f:Oper} (h:split6 l1=some (l,a,b,c,d,e,f)):l1=l++[a,b,c,d,e,f]:=by
  unfold split6 at h
  split at h
  · rename_i l5 o5 h5
    split at h
    · rename_i l4 o4 h4
      split at h
      · rename_i l3 o3 h3
        split at h
        · rename_i l2 o2 h2
          split at h
          · rename_i l1' o1 h1
            split at h
            · rename_i l0 o0 h0
              injection h with h
              obtain ⟨rfl,rfl,rfl,rfl,rfl,rfl,rfl⟩:l0=l∧o0=a∧o1=b∧o2=c∧o3=d∧o4=e∧o5=f:=by simpa using h
              rw [zbi h5,zbi h4,zbi h3,zbi h2,zbi h1,zbi h0]
              simp
            · cases h
          · cases h
        · cases h
      · cases h
    · cases h
  · cases h
section
variable {w0:W0} {S0:Nat→Nat→Prop} {nt:Nat} {fr fr1:Fr} {σ σ1:Obs} {QQ:Exit→Fr→Obs→Prop}
theorem wRn (k k':Nat) {c:Code} (hp:(cx nt w0 S0).pin k'=none) (h:W (cx nt w0 S0) c fr1 σ1 QQ) (hf:renF k k' (stripF k' fr)=fr1:=by first|((try simp only [renF,renS,renV,renC,renO,rk,List.filter_cons,List.filter_nil,Bool.not_true,Bool.not_false,Nat.reduceBEq,List.map_cons,List.map_nil,za2,za9,zaN,zba,stripV,plainV,List.all_cons,List.all_nil,Bool.and_self,stripC,stripO,stripA,zaW,zaS,zbx,za8,Nat.reduceEqDiff,if_false,if_true,reduceIte,List.contains_nil,List.contains_cons,Nat.reduceBEq,Bool.or_false,Bool.false_eq_true,Bool.or_true])<;>rfl)|rfl) (hs:renS k k' (stripS k' σ)=σ1:=by first|((try simp only [renF,renS,renV,renC,renO,rk,List.filter_cons,List.filter_nil,Bool.not_true,Bool.not_false,Nat.reduceBEq,List.map_cons,List.map_nil,za2,za9,zaN,zba,stripV,plainV,List.all_cons,List.all_nil,Bool.and_self,stripC,stripO,stripA,zaW,zaS,zbx,za8,Nat.reduceEqDiff,if_false,if_true,reduceIte,List.contains_nil,List.contains_cons,Nat.reduceBEq,Bool.or_false,Bool.false_eq_true,Bool.or_true])<;>rfl)|rfl):W (cx nt w0 S0) c fr σ QQ :=
  zqm k k' hp (by rw [hf,hs];exact h)
theorem uBig {id:Nat} {l1 l:List Oper} {oA oI oS oN oF oH:Oper} (h:DSeq (cx nt w0 S0) l1.toArray [] σ (fun fr σ=>TailOk (cx nt w0 S0) l [oA,oI,oS,oN,oF,oH] fr σ (LQ (cx nt w0 S0) QQ)) 0 [] [] l fr) (hl:split6 l1=some (l,oA,oI,oS,oN,oF,oH):=by rfl) (hok:preOk l [oA,oI,oS,oN,oF,oH]=true:=by kernel_rfl):W (cx nt w0 S0) (.region id l1.toArray true) fr σ QQ:=by
  have e:=zlV hl
  subst e
  exact znM (X:=cx nt w0 S0) zeT [] σ (by simp) hok (fun p hp=>by cases hp) (fun _ _ h=>h) h
def apart3 (L:List Nat) (a b c:Nat):Bool:=L.all fun d=>!Nat.beq a d&&(!Nat.beq b d&&!Nat.beq c d)
theorem zmc {L:List Nat} {a b c:Nat} (h:apart3 L a b c=true):∀ d∈L,a≠d∧b≠d∧c≠d:=fun d hd=>by
  unfold apart3 at h
  rw [List.all_eq_true] at h
  have:=h d hd
  simp only [Bool.and_eq_true,Bool.not_eq_true'] at this
  exact ⟨Nat.ne_of_beq_eq_false this.1,Nat.ne_of_beq_eq_false this.2.1,Nat.ne_of_beq_eq_false this.2.2⟩
theorem uTail {l:List Oper} {oA oI oS oN oF oH:Oper} {dA dI dN dF tS tX tI tV tP:Nat} {t e tO ty0:TypeId} {f off k k0 sz:Nat} {ti ie i0:TyI} {rows rs:List (List D)} {Z cs:List D} {c0 c1:List C} {z:Int}
    (h:RL (cx nt w0 S0) #[] [] ((dF,.one (.po k0 off)) :: (dN,.one (.po k0 0)) :: (dI,.junk) :: (dA,.one (.own dA rs)) :: fr1) ((k0,.obj ty0 c1) :: (dA,.tok e sz) :: σ1) (QQ .normal))
    (oA_:oA.op=.call { callee:=.builtin .append,args := #[.tmp tS,.tmp tX],argTypes := #[t,t] }:=by rfl) (dA_:oA.dst=some dA:=by rfl) (oI_:oI.op=.indexAddr t (.tmp dA) (.tmp tI):=by rfl) (dI_:oI.dst=some dI:=by rfl) (oS_:oS.op=.store e (.tmp dI) (.tmp tV):=by rfl) (dS_:oS.dst=none:=by rfl)
    (oN_:oN.op=.nilCheck (.tmp tP):=by rfl) (dN_:oN.dst=some dN:=by rfl) (oF_:oF.op=.fieldAddr tO (.tmp dN) f:=by rfl) (dF_:oF.dst=some dF:=by rfl) (oH_:oH.op=.store t (.tmp dF) (.tmp dA):=by rfl) (dH_:oH.dst=none:=by rfl) (hb:bigOk l.length oA oI oS oN oF oH=true:=by kernel_rfl)
    (lA:Nat.blt dA nt=true:=by rfl) (lI:Nat.blt dI nt=true:=by rfl) (lN:Nat.blt dN nt=true:=by rfl) (lF:Nat.blt dF nt=true:=by rfl) (nAI:Nat.beq dA dI=false:=by rfl) (nAN:Nat.beq dA dN=false:=by rfl) (nAF:Nat.beq dA dF=false:=by rfl) (nIN:Nat.beq dI dN=false:=by rfl) (nIF:Nat.beq dI dF=false:=by rfl) (nNF:Nat.beq dN dF=false:=by rfl) (nI:apart3 [dA,dI,dN,dF] tI tV tP=true:=by rfl)
    (hs:look fr tS=some (.one (.own k rows)):=by rfl) (hk:look σ k=some (.tok e sz):=by rfl) (hx:(look fr tX).bind rowsV=some [Z]:=by rfl) (hi:Ty t=some ti:=by rfl) (hit:ti.tag=2:=by rfl) (hie:ti.elem=e:=by rfl) (his:ti.size=1:=by rfl) (he:Ty e=some ie:=by rfl) (hsz:ie.size=sz:=by rfl) (h1:sized sz rows=true:=by first|rfl|exact zaY _|exact zai _|exact zaU _|assumption|exact zaK _ (zai _)|exact zaJ _ (zai _)|exact zah (by assumption) rfl|exact zah (zah rfl (zai _)) rfl|exact zah rfl (zai _)|(simp only [sized,List.all_append,List.all_cons,List.all_nil,List.all_map,Bool.and_true,Bool.and_self,zal];rfl)|(simp [sized,zal,encS];done)|simp [sized,zan]) (hZ:Z.length=sz:=by rfl) (hbd:(rows.length+1) * ie.bytes≤140737488355328:=by first|decide|(simp only [List.length_map,List.length_append,List.length_take,List.length_drop,List.length_cons,List.length_nil];omega))
    (hix:look fr tI=some (vI z):=by rfl) (hz:z=(rows.length:Int):=by first|rfl|simp|(simp only [List.length_map];omega)) (hv:look fr tV=some (.dat cs):=by rfl) (hcs:cs.length=sz:=by first|rfl|exact zal _|exact zan _|exact zby _|(simp only [zal];done)|(simp only [zan])) (hp:look fr tP=some (.one (.po k0 0)):=by rfl) (hk0:look σ k0=some (.obj ty0 c0):=by rfl) (hkk:Nat.beq k0 k=false:=by rfl) (hkA:Nat.beq k0 dA=false:=by rfl) (hi0:Ty tO=some i0:=by rfl) (htag:i0.tag=1:=by rfl) (hpl:i0.places[f]?=some (off,1):=by rfl) (hoff:Nat.blt off c0.length=true:=by rfl)
    (hr':rows++[cs]=rs:=by first|assumption|rfl) (hf:stripF dA fr=fr1:=by exact strxA) (hσ:stripS dA ((k,.junk) :: σ)=σ1:=by exact strxA) (hc:(stripL dA c0).set off (.own dA rs)=c1:=by first|((try simp only [zaS,zaW,stripA,stripC,Nat.reduceEqDiff,if_false,if_true,reduceIte,List.set_cons_zero,List.set_cons_succ])<;>rfl)|rfl) :
    TailOk (cx nt w0 S0) l [oA,oI,oS,oN,oF,oH] fr σ (LQ (cx nt w0 S0) QQ):=by
  subst hz
  exact zmG (X:=cx nt w0 S0) zad hb oA_ dA_ oI_ dI_ oS_ dS_ oN_ dN_ oF_ dF_ oH_ dH_ (Nat.blt_eq ▸ lA) (Nat.blt_eq ▸ lI) (Nat.blt_eq ▸ lN) (Nat.blt_eq ▸ lF) (Nat.ne_of_beq_eq_false nAI) (Nat.ne_of_beq_eq_false nAN) (Nat.ne_of_beq_eq_false nAF) (Nat.ne_of_beq_eq_false nIN) (Nat.ne_of_beq_eq_false nIF) (Nat.ne_of_beq_eq_false nNF) (zmc nI)
    hs hk hx hi hit hie his he hsz h1 hZ hbd hix hv hcs hp hk0 (Nat.ne_of_beq_eq_false hkk) (Nat.ne_of_beq_eq_false hkA) hi0 htag hpl (Nat.blt_eq ▸ hoff) (by
      unfold tailFr tailOb
      rw [hr',hf,hσ,hc];exact h)
end
end Go.Proofs.YtiplihojmfbjkaaGreat
