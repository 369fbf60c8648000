/- Walks: match.Count: as many as there are derivations,from behind,at most 1001. -/
import Derived.Test.YtiplihojmfbjkaaGreatPD
import Derived.Test.YtiplihojmfbjkaaGreatWM
import Derived.Test.YtiplihojmfbjkaaGreatMV
import Derived.DeepKeys5
import Derived.WideKeyPair
import Derived.Maps.Keyed
set_option maxRecDepth 100000
set_option maxHeartbeats 16000000
namespace Go.Proofs.YtiplihojmfbjkaaGreat
open Go.RowKit
theorem zkP (g:Gr) (p:Pt):TabAt g (tabF g (elems p)) 0 p:=fun j q hq=>by
  unfold tabF
  rw [Nat.zero_add,List.getElem?_map,hq];rfl
theorem zl5:∀ p:Pt,(elems p).length≤nodesP p:=Pt.ind fun p ih=>by
  rw [za5,zbl]
  split
  · simp
  · have:∀ l:List Pt,(∀ k∈l,k∈p.kids)→(l.flatMap elems).length≤(l.map nodesP).sum:=fun l=>by
      induction l with
      | nil=>intro _;exact Nat.le_refl _
      | cons k l ihl =>
        intro hl
        have h1:=ih k (hl k List.mem_cons_self)
        have h2:=ihl fun x hx=>hl x (List.mem_cons_of_mem _ hx)
        rw [List.flatMap_cons,List.length_append,List.map_cons,List.sum_cons];omega
    have:=this p.kids fun _ h=>h
    omega
theorem zkj:∀ p:Pt,rightP p=true→(elems p).length≤sizeN p:=Pt.ind fun p ih h=>by
  have hr:=zaF h
  rw [za5]
  split
  · have:=zcY p;simp;omega
  · have key:∀ l:List Pt,(∀ k∈l,k∈p.kids)→(l.flatMap elems).length≤(l.map sizeN).sum:=fun l=>by
      induction l with
      | nil=>intro _;exact Nat.le_refl _
      | cons k l ihl =>
        intro hl
        have h1:=ih k (hl k List.mem_cons_self) (hr k (hl k List.mem_cons_self))
        have h2:=ihl fun x hx=>hl x (List.mem_cons_of_mem _ hx)
        rw [List.flatMap_cons,List.length_append,List.map_cons,List.sum_cons];omega
    have h1:=key p.kids fun _ h=>h
    by_cases h5:p.kind=5
    · obtain ⟨⟨k,hk,_⟩,q0,_,q3⟩:=zaI h h5
      rw [hk] at h1
      have:=zdI h5 hk
      have ht:1≤timesP p:=by unfold timesP;split<;>omega
      have:(sizeN k+1) * 1≤(sizeN k+1) * timesP p:=Nat.mul_le_mul_left _ ht
      rw [hk]
      simp only [List.map_cons,List.map_nil,List.sum_cons,List.sum_nil] at h1
      omega
    · rw [zck h5];omega
def cntP (g:Gr) (ns es:List Int) (p:Pt):Nat:=capN (backT es.length (placeF g ns es) p (endV es.length) 0)
theorem zoy {g:Gr} {ns es:List Int} (hP:PathOk g ns es) (hes:es.length≤1000) (hn:g.nodes.length≤1000) (he:g.edges.length≤1000) (p:Pt) (hr:rightP p=true) (hen:endsP p=true) (hsz:sizeN p≤1000) :
    CallsV Tryz.prog 39 [.dat (encG g),.dat (encP p),.dat [.sl (ns.map encI),.sl (es.map encI)]] (.val (.tup [vI (if tabE g (elems p)=0 then ((cntP g ns es p:Nat):Int) else 0),vI (tabE g (elems p))])):=by
  have hel:=zkj p hr
  have hT:=zjH g p hn he (by omega)
  have hle:(es.map encI).length=es.length:=List.length_map _
  unfold encG at hT ⊢
  by_cases h0:tabE g (elems p)=0
  · have htr:tabR g (elems p)=(tabF g (elems p),0):=by unfold tabR;rw [if_pos h0]
    rw [htr] at hT
    dsimp only at hT
    rw [if_pos h0,h0]
    have hF:=(zpf g ns es (tabF g (elems p)) 0 (es.length+1) hP.len (by omega) (by omega)).flat
    have hC:=(zoD hP hes p 0 (oneV 0) hr (zkP g p) (by omega) hsz).flat
    have hres:fwdT es.length (placeF g ns es) p (oneV 0) es.length=backT es.length (placeF g ns es) p (endV es.length) 0:=znt hr hen
    have hat:((rowV (fwdT es.length (placeF g ns es) p (oneV 0)) (es.length+1)).map encI)[(((es.map encI).length:Nat):Int).toNat]?=some (encI ((cntP g ns es p:Nat):Int)):=by
      rw [Int.toNat_natCast,hle,List.getElem?_map,zdp (Nat.lt_succ_self _),hres];rfl
    have hlr:((rowV (fwdT es.length (placeF g ns es) p (oneV 0)) (es.length+1)).map encI).length=es.length+1:=by rw [List.length_map,zaB]
    rw [Int.ofNat_zero] at hF hC
    generalize (cntP g ns es p:Nat)=c at hat ⊢
    generalize (rowV (fwdT es.length (placeF g ns es) p (oneV 0)) (es.length+1)).map encI=rows at hC hat hlr
    unfold encDv at hF hC
    (refine zaa (Ty:=Ty) zad Tryz.func39 rfl rfl rfl fun w0 S0=>?_;refine enA ?_)
    repeat' (first|(refine isCl ?_;first|refine uC (hT) ?_|refine uC (hF) ?_|refine uC (hC) ?_)|(refine isD ?_;first|refine mBdA p 0 ?_|(refine imCl ?_;first|refine mC (hT) ?_|refine mC (hF) ?_|refine mC (hC) ?_))|refine nx ?_|(refine nx2 ?_ ?_<;>intro hb))
    exact zab (by rfl) rfl
  · have htr:tabR g (elems p)=([],tabE g (elems p)):=by unfold tabR;rw [if_neg h0]
    rw [htr] at hT
    dsimp only at hT
    rw [if_neg h0]
    (refine zaa (Ty:=Ty) zad Tryz.func39 rfl rfl rfl fun w0 S0=>?_;refine enA ?_)
    repeat' (first|refine uC (hT) ?_|refine mC (hT) ?_|refine nx ?_|(refine nx2 ?_ ?_<;>intro hb))
    exact zab (by rfl) rfl
end Go.Proofs.YtiplihojmfbjkaaGreat
namespace Go.Proofs.YtiplihojmfbjkaaGreat
open Go.RowKit
structure KeyT (P:Program) (kt:TypeId) (K:Value→Prop):Prop where
  check:∀ (w:World) (em:Bool) {v:Value},K v→(Instr.checkKey em 10000 kt v).run P w=.ok () w
  find:∀ (w:World) {x:Value},K x→ ∀ es:List MapEntry,(∀ e∈es,K e.key)→((Instr.findKey kt x es).run P w=.ok none w∧ ∀ e∈es,e.key≠x)∨ ∃ j e,(Instr.findKey kt x es).run P w=.ok (some (j,e.val)) w∧es[j]?=some e∧e.key=x
  stays:∀ (w:World) {v:Value},K v→(Instr.keyThatStays v v).run P w=.ok v w
theorem KeyT.of {P:Program} {k:TypeId} (L:Go.WideMaps.KeyLaw P k) {K:Value→Prop} (hK:∀ v,K v→ ∃ l,keyOf P k v=some l):KeyT P k K where
  check w em _ h:=(hK _ h).elim fun _ h=>(Go.Maps.Keyed.of_law L).check w em h
  find w _ h es hes:=(hK _ h).elim fun _ h=>(Go.Maps.Keyed.of_law L).find w h es fun e he=>hK _ (hes e he)
  stays w _ h:=(hK _ h).elim fun _ h=>(Go.Maps.Keyed.of_law L).stays w h
theorem MapR.keys {S:Nat→Nat→Prop} {w:World} {es:List (Value × VV)} {ms:List MapEntry} (h:MapR S w es ms) {K:Value→Prop} (hK:∀ p∈es,K p.1):∀ m∈ms,K m.key:=fun m hm=>by
  obtain ⟨j,hj⟩:=List.mem_iff_getElem?.1 hm
  obtain ⟨p,h1,h2,_⟩:=h.at hj
  rw [h2];exact hK p (List.mem_of_getElem? h1)
theorem MapR.no {S:Nat→Nat→Prop} {w:World} {es:List (Value × VV)} {ms:List MapEntry} (h:MapR S w es ms) {key:Value} (hn:∀ m∈ms,m.key≠key):∀ p∈es,p.1≠key:=fun p hp e=>by
  obtain ⟨j,hj⟩:=List.mem_iff_getElem?.1 hp
  obtain ⟨m,g1,g2,_⟩:=h.2 j p hj
  exact hn m (List.mem_of_getElem? g1) (g2.trans e)
theorem zjd {P:Program} {w:World} {S:Nat→Nat→Prop} {r:Nat} {ms:List MapEntry} {clock:Nat} {mty kt et:TypeId} {K:Value→Prop} {key value:Value} {es:List (Value × VV)} {x:VV} (KT:KeyT P kt K) (hm:P.underlying mty=some (.map kt et)) (hb:w.heap[r]?=some (.map ms.toArray clock))
    (hR:MapR S w es ms) (hks:∀ p∈es,K p.1) (hk:K key) (hx:∀ (γ:Nat→Nat) (T:Nat→Value),RV γ T S w x value) :
    ∃ (ms':List MapEntry) (clock':Nat) (es':List (Value × VV)),(Instr.mapUpdate mty (.map (some r)) key value).run P w=.ok () { w with heap:=w.heap.setIfInBounds r (.map ms'.toArray clock') }∧MapR S w es' ms'∧ ∀ p∈es',p=(key,x)∨p∈es:=by
  rcases KT.find w hk ms (hR.keys hks) with ⟨h1,h2⟩ | ⟨j,e,h1,h2,h3⟩
  · refine ⟨ms++[{ key:=key,val:=value,born:=clock }],clock+1,es++[(key,x)],?_,⟨by simp [hR.1],fun i p hp=>?_⟩,fun p hp=>?_⟩
    · simp [Instr.mapUpdate,run_underlying hm,MapKept.run_getObj_map hb,KT.check w false hk,h1,MapKept.run_setObj_map _ hb,Result.andThen]
    · by_cases hi:i < es.length
      · rw [List.getElem?_append_left hi] at hp
        rw [List.getElem?_append_left (by rw [hR.1];exact hi)]
        exact hR.2 i p hp
      · rw [List.getElem?_append_right (by omega)] at hp
        rw [List.getElem?_append_right (by rw [hR.1];omega),hR.1]
        obtain ⟨i',hi'⟩:∃ i',i - es.length=i':=⟨_,rfl⟩
        rw [hi'] at hp ⊢
        cases i' with
        | zero=>simp only [List.getElem?_cons_zero,Option.some.injEq] at hp;subst hp;exact ⟨_,rfl,rfl,hx⟩
        | succ i'=>simp at hp
    · rcases List.mem_append.1 hp with h|h
      · exact .inr h
      · exact .inl (by simpa using h)
  · have hj:ms.toArray[j]?=some e:=by simpa using h2
    refine ⟨ms.set j { e with key:=key,val:=value },clock,es.set j (key,x),?_,⟨by simp [hR.1],fun i q hq=>?_⟩,fun p hp=>?_⟩
    · have hmod:(ms.modify j fun e=>{ e with key:=key,val:=value })=ms.set j { e with key:=key,val:=value }:=by
        apply List.ext_getElem?
        intro i
        rw [List.getElem?_modify,List.getElem?_set]
        by_cases hi:j=i
        · subst hi
          obtain ⟨h5,h6⟩:=List.getElem?_eq_some_iff.1 h2
          simp [h5,h6]
        · simp [hi]
      simp [Instr.mapUpdate,run_underlying hm,MapKept.run_getObj_map hb,KT.check w false hk,h1,h2,h3,KT.stays w hk,MapKept.run_setObj_map _ hb,Result.andThen]
      rw [hmod]
    · obtain ⟨p,g1,_,_⟩:=hR.at h2
      rw [List.getElem?_set] at hq
      rw [List.getElem?_set]
      by_cases hi:j=i
      · rw [if_pos hi] at hq
        rw [if_pos hi]
        have hlt:j < es.length:=(List.getElem?_eq_some_iff.1 g1).1
        rw [if_pos (by omega)] at hq
        rw [if_pos (by rw [hR.1];omega)]
        injection hq with hq;subst hq
        exact ⟨_,rfl,rfl,hx⟩
      · rw [if_neg hi] at hq
        rw [if_neg hi]
        exact hR.2 i q hq
    · rcases List.mem_or_eq_of_mem_set hp with h|h
      · exact .inr h
      · exact .inl h
def pl (a b:Int):Value:=.agg #[.int .i64 a,.int .i64 b]
theorem zph {a b c d:Int} (h:pl a b=pl c d):a=c∧b=d:=by
  unfold pl at h
  simp only [Value.agg.injEq,Array.mk.injEq,List.cons.injEq,Value.int.injEq,true_and,and_true] at h
  exact h
section
variable {X:Ctx} {γ:Nat→Nat} {T:Nat→Value} {S:Nat→Nat→Prop} {w:World} {fr:Fr} {σ:Obs} {ops:Array Oper} {o:Oper} {rest:List Oper} {Q:Fr→Obs→Prop}
theorem zhZ {x v:Value} {a b:Int} (hx:x=pl a b) (hv:RV γ T S w (.dat [.v (.int .i64 a),.v (.int .i64 b)]) v):v=x:=by
  cases hv with
  | dat h =>
    rename_i us
    obtain ⟨hl,hu⟩:=h
    obtain ⟨u0,e0,r0⟩:=hu 0 _ rfl
    obtain ⟨u1,e1,r1⟩:=hu 1 _ rfl
    cases r0;cases r1
    match us,hl,e0,e1 with
    | [a',b'],_,e0,e1 =>
      simp only [List.getElem?_cons_zero,List.getElem?_cons_succ,Option.some.injEq] at e0 e1
      subst e0;subst e1;subst hx;rfl
theorem zpJ {k:Nat} {t kt et:TypeId} {m kx xx:Operand} {es:List (Value × VV)} {K:Value→Prop} {a0 b0:Int} {x:VV} (KT:KeyT X.P kt K) (hw:wantA ops o fr=some true) (hdst:o.dst=none) (ho:o.op=.mapUpdate t m kx xx) (hm:ev fr m=some (.one (.mr k))) (hk:look σ k=some (.mp es)) (hkx:ev fr kx=some (.dat [.v (.int .i64 a0),.v (.int .i64 b0)])) (hxx:ev fr xx=some x) (hraw:rawV x=true)
    (ht:X.P.underlying t=some (.map kt et)) (hks:∀ p∈es,K p.1) (hkey:K (pl a0 b0))
    (h:∀ es':List (Value × VV),(∀ p∈es',p=(pl a0 b0,x)∨p∈es)→RL X ops rest fr ((k,.mp es') :: σ) Q):RL X ops (o :: rest) fr σ Q :=
  ⟨fun γ T S w a K hr hkk=>wpList_step fun K' hK=>by
    rw [if_pos (zam hr hw)]
    obtain ⟨ms,clock,g1,g2,g3,g4,g5⟩:=hr.st.obj k _ hk
    have hv:=zae hr hm
    cases hv with
    | one hv =>
      have hev:a.eval m=.map (some (γ k)):=hv
      have hkv:a.eval kx=pl a0 b0:=zhZ rfl (zae hr hkx)
      obtain ⟨ms',clock',es',hrun,hR,hes⟩:=zjd (P:=X.P) (x:=x) (value:=a.eval xx) KT ht g1 g2 hks hkey fun γ' T'=>zfP hraw (zae hr hxx)
      have hexec:(execOp a.eval o).run X.P w=.ok .skip { w with heap:=w.heap.setIfInBounds (γ k) (.map ms'.toArray clock') }:=by
        simp only [execOp,ho,hev,hkv,Sem.run_bind,hrun,Result.andThen_ok,Sem.run_pure]
      have honly:OnlyAt w { w with heap:=w.heap.setIfInBounds (γ k) (.map ms'.toArray clock') } (γ k):=⟨rfl,rfl,rfl,by simp,fun b hb=>(MapKept.heap_set g1).2 b hb⟩
      unfold Oper.wp
      rw [hexec]
      refine hK _ _ ?_
      have hkp:Kp S w { w with heap:=w.heap.setIfInBounds (γ k) (.map ms'.toArray clock') }:=fun b o x hs hc=>by
        rw [World.cell?_of_block (honly.block b fun e=>g3 o (e ▸ hs))];exact hc
      have:=(hr.chg (ob':=.mp es') hk rfl rfl honly ⟨ms',clock',(MapKept.heap_set g1).1,⟨hR.1,fun j p hp=>by
        obtain ⟨m,q1,q2,q3⟩:=hR.2 j p hp
        exact ⟨m,q1,q2,fun γ' T'=>(q3 γ' T').mono (fun _ _ hs=>hs) hkp⟩⟩,g3,g4,g5⟩).1
      have h9:=(h es' hes).out γ T S _ a _ this hkk
      rw [hdst]
      exact h9⟩
theorem zkp {a:Act} {m kx:Operand} {k:Nat} {t kt et:TypeId} {es:List (Value × VV)} {K:Value→Prop} {a0 b0:Int} {z:Value} (KT:KeyT X.P kt K) (ho:o.op=.lookup t m kx true) (ht:X.P.underlying t=some (.map kt et)) (hz:∀ w,(zeroValue et).run X.P w=.ok z w) (hr:Rel X γ T S w fr σ a) (hm:ev fr m=some (.one (.mr k))) (hk:look σ k=some (.mp es)) (hkx:ev fr kx=some (.dat [.v (.int .i64 a0),.v (.int .i64 b0)])) (hks:∀ p∈es,K p.1) (hkey:K (pl a0 b0)) :
    ((execOp a.eval o).run X.P w=.ok (.value (.tuple #[z,.bool false])) w∧ ∀ p∈es,p.1≠pl a0 b0)∨ ∃ p∈es,p.1=pl a0 b0∧ ∃ v,RV γ T S w p.2 v∧(execOp a.eval o).run X.P w=.ok (.value (.tuple #[v,.bool true])) w:=by
  obtain ⟨ms,clock,g1,g2,g3,g4,g5⟩:=hr.st.obj k _ hk
  have g2:MapR S w es ms:=g2
  have hv:=zae hr hm
  cases hv with
  | one hv =>
    have hev:a.eval m=.map (some (γ k)):=hv
    have hkv:a.eval kx=pl a0 b0:=zhZ rfl (zae hr hkx)
    rcases KT.find w hkey ms (g2.keys hks) with ⟨h1,h2⟩ | ⟨j,e,h1,h2,h3⟩
    · refine .inl ⟨?_,g2.no h2⟩
      simp [execOp,ho,hev,hkv,Instr.lookup,run_underlying ht,MapKept.run_getObj_map g1,KT.check w _ hkey,h1,hz,Result.andThen]
    · obtain ⟨p,q1,q2,q3⟩:=g2.at h2
      refine .inr ⟨p,List.mem_of_getElem? q1,q2 ▸ h3,e.val,q3 γ T,?_⟩
      simp [execOp,ho,hev,hkv,Instr.lookup,run_underlying ht,MapKept.run_getObj_map g1,KT.check w _ hkey,h1,Result.andThen]
theorem tup2 {x y:VV} {u v:Value} (hx:RV γ T S w x u) (hy:RV γ T S w y v):RV γ T S w (.tup [x,y]) (.tuple #[u,v]) :=
  .tup [x,y] [u,v] rfl fun j x' u' h1 h2=>by
    match j,h1,h2 with
    | 0,h1,h2=>simp only [List.getElem?_cons_zero,Option.some.injEq] at h1 h2;subst h1;subst h2;exact hx
    | 1,h1,h2=>simp only [List.getElem?_cons_zero,List.getElem?_cons_succ,Option.some.injEq] at h1 h2;subst h1;subst h2;exact hy
variable {τ0 σB:Obs} {K:List Cr} {C0:Cons} {QD:Fr→Obs→Prop} {i0:Nat}
theorem znW {m kx:Operand} {k d:Nat} {t kt et:TypeId} {es:List (Value × VV)} {KK:Value→Prop} {a0 b0:Int} {z:Value} {x:VV} {b:Bool} (KT:KeyT X.P kt KK) (hw:wantA ops o (restr ops o fr)=some true) (hdst:o.dst=some d) (hd:Nat.blt d X.nt=true) (ho:o.op=.lookup t m kx true) (ht:X.P.underlying t=some (.map kt et)) (hz:∀ w,(zeroValue et).run X.P w=.ok z w) (hz1:z.oneCell'=true) (hx:ev (restr ops o fr) m=some (.one (.mr k))) (hk:look σB k=some (.mp es)) (hkx:ev (restr ops o fr) kx=some (.dat [.v (.int .i64 a0),.v (.int .i64 b0)])) (hks:∀ p∈es,KK p.1) (hkey:KK (pl a0 b0))
    (hgot:if b=true then (∃ p∈es,p.1=pl a0 b0)∧ ∀ p∈es,p.1=pl a0 b0→p.2=x else (∀ p∈es,p.1≠pl a0 b0)∧x=.one (.d (.v z))) (hm:MenOk o K (.tup [x,.one (.d (.v (.bool b)))]))
    (h:DSeq X ops τ0 σB QD (i0+1) K C0 rest ((d,.tup [x,.one (.d (.v (.bool b)))]) :: fr)):DSeq X ops τ0 σB QD i0 K C0 (o :: rest) fr :=
  zbS hdst hd hm (.inr ⟨hw,fun γ T S w a hr=>.inl (by
    rcases zkp KT ho ht hz hr hx hk hkx hks hkey with ⟨h1,h2⟩ | ⟨p,hp,h1,v,h2,h3⟩
    · cases b with
      | true=>rw [if_pos rfl] at hgot;obtain ⟨⟨p,hp,e⟩,_⟩:=hgot;exact absurd e (h2 p hp)
      | false =>
        rw [if_neg (by decide)] at hgot
        obtain ⟨_,rfl⟩:=hgot
        exact ⟨_,w,h1,S,za3 S w,tup2 (.one (.v _ hz1)) (.one (.v _ rfl))⟩
    · cases b with
      | true =>
        rw [if_pos rfl] at hgot
        rw [hgot.2 p hp h1] at h2
        exact ⟨_,w,h3,S,za3 S w,tup2 h2 (.one (.v _ rfl))⟩
      | false=>rw [if_neg (by decide)] at hgot;exact absurd h1 (hgot.1 p hp))⟩) h
end
section
variable {w0:W0} {S0:Nat→Nat→Prop} {nt:Nat} {fr fr1:Fr} {σ σ1 σ2 τ0 τ1 σB:Obs} {o:Oper} {ops:Array Oper} {rest:List Oper} {Q:Fr→Obs→Prop} {d k:Nat} {xx:Operand} {QQ:Exit→Fr→Obs→Prop} {QD:Fr→Obs→Prop} {KK:List Cr} {C0:Cons} {j0:Nat} {t kt et:TypeId}
theorem zlH {P : Program} {k e : TypeId} {f0 f1 : Field} (hu : P.underlying k = some (.struct #[f0, f1])) (he : P.underlying e = some (.int .i64)) (t0 : f0.type = e) (t1 : f1.type = e) (o0 : f0.offset = 0) (o1 : f1.offset = 1) (n0 : (f0.name != "_") = true) (n1 : (f1.name != "_") = true) (c : P.cellsOf k = 2) (ce : P.cellsOf e = 1) (hkt : P.keyType k = true) (hsz : ∃ m, P.types.size = m + 1) {a b : Int} (wa : (Lit.int .i64 a).wf = true) (wb : (Lit.int .i64 b).wf = true) :
    keyOf P k (pl a b)=some (.string (keyBytes [.int .i64 a,.int .i64 b])):=by
  obtain ⟨m,hm⟩:=hsz
  unfold keyOf pl
  simp only [hu]
  rw [if_pos (by simp [hkt,Value.formed,hu,c]),hm]
  unfold Program.keyLits
  simp only [hu,Value.cells]
  rw [if_pos ⟨by rw [c];rfl,by simp [n0,n1]⟩]
  simp [List.mapM_cons,List.mapM_nil,t0,t1,o0,o1,ce,Program.keyLits,he,wa,wb]
def IsPl (v:Value):Prop:=∃ a b:Int,v=pl a b∧(Lit.int .i64 a).wf=true∧(Lit.int .i64 b).wf=true
theorem zgx:KeyT Tryz.prog 146 IsPl :=
  KeyT.of (deep_law_gate (by kernel_rfl) (of_decide_eq_true (by kernel_rfl)) (of_decide_eq_true (by kernel_rfl)) (by kernel_rfl) (by kernel_rfl)) fun v ⟨a,b,h,ha,hb⟩=>h ▸ ⟨_,zlH (e:=3) rfl rfl rfl rfl rfl rfl (by decide) (by decide) (by kernel_rfl) (by kernel_rfl) (by kernel_rfl) ⟨Tryz.prog.types.size - 1,by kernel_rfl⟩ ha hb⟩
theorem uMuS {m kx:Operand} {es:List (Value × VV)} {a0 b0:Int} {x:VV} (hks:∀ p∈es,IsPl p.1) (hkey:IsPl (pl a0 b0)) (h:∀ es':List (Value × VV),(∀ p∈es',p=(pl a0 b0,x)∨p∈es)→RL (cx nt w0 S0) ops rest fr ((k,.mp es') :: σ) Q) (ho:o.op=.mapUpdate 141 m kx xx:=by rfl) (hw:wantA ops o fr=some true:=by rfl) (hdst:o.dst=none:=by rfl) (hm:ev fr m=some (.one (.mr k)):=by rfl) (hk:look σ k=some (.mp es):=by rfl) (hkx:ev fr kx=some (.dat [.v (.int .i64 a0),.v (.int .i64 b0)]):=by rfl) (hxx:ev fr xx=some x:=by rfl) (hraw:rawV x=true:=by rfl):RL (cx nt w0 S0) ops (o :: rest) fr σ Q :=
  zpJ (X:=cx nt w0 S0) zgx hw hdst ho hm hk hkx hxx hraw (et:=3) rfl hks hkey h
theorem znn (w:World):(zeroValue 3).run Tryz.prog w=.ok (.int .i64 0) w:=by rfl
theorem mLookS {m kx:Operand} {es:List (Value × VV)} {a0 b0:Int} {x:VV} {b:Bool} (hks:∀ p∈es,IsPl p.1) (hkey:IsPl (pl a0 b0)) (hgot:if b=true then (∃ p∈es,p.1=pl a0 b0)∧ ∀ p∈es,p.1=pl a0 b0→p.2=x else (∀ p∈es,p.1≠pl a0 b0)∧x=vI 0)
    (h:DSeq (cx nt w0 S0) ops τ0 σB QD (j0+1) KK C0 rest ((d,.tup [x,vB b]) :: fr)) (ho:o.op=.lookup 141 m kx true:=by rfl) (hx:ev (restr ops o fr) m=some (.one (.mr k)):=by rfl) (hk:look σB k=some (.mp es):=by rfl) (hkx:ev (restr ops o fr) kx=some (.dat [.v (.int .i64 a0),.v (.int .i64 b0)]):=by rfl) (hw:wantA ops o (restr ops o fr)=some true:=by rfl) (hdst:o.dst=some d:=by rfl) (hd:Nat.blt d nt=true:=by rfl) (hm:MenOk o KK (.tup [x,vB b]):=by (repeat (first|exact zax _ _|refine zau (by first|exact Or.inl rfl|exact Or.inr rfl) ?_))):DSeq (cx nt w0 S0) ops τ0 σB QD j0 KK C0 (o :: rest) fr :=
  znW (X:=cx nt w0 S0) zgx hw hdst hd ho (et:=3) rfl znn rfl hx hk hkx hks hkey hgot hm h
end
end Go.Proofs.YtiplihojmfbjkaaGreat
