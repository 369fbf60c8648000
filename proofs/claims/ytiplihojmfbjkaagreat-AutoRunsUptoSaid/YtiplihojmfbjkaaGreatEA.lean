/- Walks: right patterns. -/
import Derived.Test.YtiplihojmfbjkaaGreatVF
import Derived.Test.YtiplihojmfbjkaaGreatWM
import Derived.Test.YtiplihojmfbjkaaGreatVC
set_option maxRecDepth 100000
set_option maxHeartbeats 4000000
namespace Go.Proofs.YtiplihojmfbjkaaGreat
open Go.RowKit
theorem zmX (l:List Pt) (g:FuncId) (caps:List (List D)) (f:Pt→Bool) (hg:∀ e∈l,CallsV Tryz.prog g (.dat (encP e) :: caps.map fun q=>.one (.d (.pi q))) (.val (vB (f e)))) :
    CallsV Tryz.prog 195 [vL (l.map encP),.one (.d (.fn g caps))] (.val (vI (idxF f l 0))):=by
  (refine zaa (Ty:=Ty) zad Tryz.func195 rfl rfl rfl fun w0 S0=>?_;refine enA ?_)
  have hlm:(l.map encP).length=l.length:=List.length_map _
  refine zbm (t:=0) rfl rfl fun hlim=>?_
  repeat refine nx ?_
  refine zay (α:=Nat) (fun k=>[(0,vL (l.map encP)),(1,.one (.d (.fn g caps))),(7,vI ((l.map encP).length:Int)),(8,vI k)]) (fun _=>[]) (fun k=>k≤l.length∧idxF f l 0=idxF f (l.drop k) k) (fun k=>l.length - k) 0 ⟨Nat.zero_le _,rfl⟩ subA subA ?_
  intro k ⟨hk,hi⟩
  by_cases hlt:k < l.length
  · obtain ⟨q,hq⟩:∃ q,l[k]?=some q:=⟨_,List.getElem?_eq_getElem hlt⟩
    have hQ:=hg q (List.mem_of_getElem? hq)
    have hd:l.drop k=q :: l.drop (k+1):=by
      rw [List.drop_eq_getElem_cons hlt]
      rw [List.getElem?_eq_getElem hlt] at hq
      injection hq with hq
      rw [hq]
    rw [hd,zdE] at hi
    cases hf:f q with
    | true =>
      rw [hf] at hQ
      rw [hf,if_pos rfl] at hi
      repeat (first|refine uDc (hQ) ?_|refine nx ?_)
      exact zab (by rfl) (zaG hi.symm)
    | false =>
      rw [hf] at hQ
      rw [hf,if_neg (by decide)] at hi
      repeat (first|refine uDc (hQ) ?_|refine nx ?_)
      exact ⟨k+1,by omega,⟨hlt,hi⟩,subA,subA⟩
  · rw [List.drop_of_length_le (by omega),zfY] at hi
    repeat refine nx ?_
    exact zab (by rfl) (zaG hi.symm)
theorem zfA (l:List Pt) (g:FuncId) (caps:List (List D)) (f:Pt→Bool) (hg:∀ e∈l,CallsV Tryz.prog g (.dat (encP e) :: caps.map fun q=>.one (.d (.pi q))) (.val (vB (f e)))) :
    CallsV Tryz.prog 157 [vL (l.map encP),.one (.d (.fn g caps))] (.val (vB (l.any f))):=by
  have hI:=zmX l g caps f hg
  have hd:=zfN f l 0
  (refine zaa (Ty:=Ty) zad Tryz.func157 rfl rfl rfl fun w0 S0=>?_;refine enA ?_)
  cases ha:l.any f with
  | true =>
    rw [ha,decide_eq_true_eq] at hd
    repeat (first|refine uC (hI) ?_|refine nx ?_)
    exact zab (by rfl) rfl
  | false =>
    rw [ha,decide_eq_false_iff_not] at hd
    repeat (first|refine uC (hI) ?_|refine nx ?_)
    exact zab (by rfl) rfl
theorem zij:∀ (n:Nat) (_hn:n≤50) (e:Pt),CallsV Tryz.prog 81 [.dat (encP e),vI n] (.val (vI (depthP n e)))
  | 0,_,e=>by
    (refine zaa (Ty:=Ty) zad Tryz.func81 rfl rfl rfl fun w0 S0=>?_;refine enA ?_)
    repeat refine nx ?_
    exact zab (by rfl) (zaG (by rw [zfD];rfl))
  | n+1,hn,e=>by
    have ih:∀ q:Pt,CallsV Tryz.prog 81 [.dat (encP q),vI (((n+1:Nat):Int) - 1)] (.val (vI (depthP n q))):=fun q=>by
      rw [show ((n+1:Nat):Int) - 1=n by omega];exact zij n (by omega) q
    (refine zaa (Ty:=Ty) zad Tryz.func81 rfl rfl rfl fun w0 S0=>?_;refine enA ?_)
    have hlm:(e.kids.map encP).length=e.kids.length:=List.length_map _
    refine zeo ?_
    repeat refine nx ?_
    refine zay (α:=Nat) (fun k=>[(1,vI ((n+1:Nat):Int)),(2,.one (.po 2 0)),(5,vI (((e.kids.take k).foldl (fun d q=>max d (depthP n q)) 0:Nat):Int)),(11,vL (e.kids.map encP)),(12,vI ((e.kids.map encP).length:Int)),(13,vI k)]) (fun _=>[(2,.box 34 (encP e))]) (fun k=>k≤e.kids.length) (fun k=>e.kids.length - k) 0 (Nat.zero_le _) subA subA ?_
    intro k hk
    refine zbm (t:=11) rfl rfl fun hlim=>?_
    by_cases hlt:k < e.kids.length
    · obtain ⟨q,hq⟩:∃ q,e.kids[k]?=some q:=⟨_,List.getElem?_eq_getElem hlt⟩
      have hQ:=ih q
      have hnx:=zbe (g:=fun (d:Nat) q=>max d (depthP n q)) (b:=0) hq
      repeat (first|refine uC (hQ) ?_|refine nx ?_)
      rw [zkR,← hnx]
      exact ⟨k+1,by omega,hlt,subA,subA⟩
    · have hkl:k=e.kids.length:=by omega
      subst hkl
      rw [List.take_length]
      have hle:=ze3 (n+1) e
      rw [zdK] at hle
      repeat refine nx ?_
      exact zab (by rfl) (zaG (by rw [zdK];rfl))
theorem zmD (e:Pt):CallsV Tryz.prog 36 [.dat (encP e)] (.val (vI (depthP 50 e))):=by
  have h:=zij 50 (Nat.le_refl _) e
  have hle:=ze3 50 e
  (refine zaa (Ty:=Ty) zad Tryz.func36 rfl rfl rfl fun w0 S0=>?_;refine enA ?_)
  repeat (first|refine uC (h) ?_|refine nx ?_)
  exact zab (by rfl) (zaG (by rw [if_neg];omega))
theorem zb0 {α:Type} {l:List α} {b:Bool} (h:decide (l.length=0)=b):l.isEmpty=b:=by
  rw [← h];cases l<;>simp
theorem zgh (e:E):CallsV Tryz.prog 161 [.dat (encE e)] (.val (vB (noneE e))):=by
  have hdef:noneE e=(e.kind==0&&(emptyS e.name&&(e.kids.isEmpty&&zeroV e.val))):=rfl
  have hlm:(e.kids.map encE).length=e.kids.length:=List.length_map _
  (refine zaa (Ty:=Ty) zad Tryz.func161 rfl rfl rfl fun w0 S0=>?_;refine enA ?_)
  by_cases hk:e.kind=0
  · cases hs:emptyS e.name with
    | false =>
      have hs2:=zaQ _ _ hs
      repeat refine nx ?_
      exact zab (by rfl) (zao (by rw [hdef,hs];simp))
    | true =>
      have hs2:=zaQ _ _ hs
      by_cases hl:e.kids.length=0
      · have he:=zb0 (decide_eq_true hl)
        cases hz:zeroV e.val
        all_goals
          repeat refine nx ?_
          exact zab (by rfl) (zao (by rw [hdef,hs,he,hz,beq_iff_eq.2 hk];rfl))
      · have he:=zb0 (decide_eq_false hl)
        repeat refine nx ?_
        exact zab (by rfl) (zao (by rw [hdef,hs,he];simp))
  · repeat refine nx ?_
    exact zab (by rfl) (zao (by rw [hdef,beq_eq_false_iff_ne.2 hk];rfl))
theorem inY {n a b:Int} (h:a≤n∧n≤b):CallsV Tryz.prog 111 [vI n,vI a,vI b] (.val (vB true)):=by
  obtain ⟨h1,h2⟩:=h
  (refine zaa (Ty:=Ty) zad Tryz.func111 rfl rfl rfl fun w0 S0=>?_;refine enA ?_)
  repeat refine nx ?_
  exact zab (by rfl) rfl
theorem inO {n a b:Int} (h:¬ (a≤n∧n≤b)):CallsV Tryz.prog 111 [vI n,vI a,vI b] (.val (vB false)):=by
  (refine zaa (Ty:=Ty) zad Tryz.func111 rfl rfl rfl fun w0 S0=>?_;refine enA ?_)
  by_cases h1:a≤n
  · have h2:¬ n≤b:=fun h2=>h ⟨h1,h2⟩
    clear h
    repeat refine nx ?_
    exact zab (by rfl) rfl
  · clear h
    repeat refine nx ?_
    exact zab (by rfl) rfl
theorem zly (p:Pt):CallsV Tryz.prog 160 [.dat (encP p)] (.val (vB (elemOK p))):=by
  have hdef:elemOK p=(p.kids.isEmpty&&(noneE p.label || labelRight p.label)&&(noneE p.wher || exprRight p.wher)):=rfl
  have hlm:(p.kids.map encP).length=p.kids.length:=List.length_map _
  have hN:=zgh p.label
  have hM:=zgh p.wher
  have hL:=znZ p.label
  have hE:=zfu p.wher
  (refine zaa (Ty:=Ty) zad Tryz.func160 rfl rfl rfl fun w0 S0=>?_;refine enA ?_)
  by_cases hl:p.kids.length=0
  · have he:=zb0 (decide_eq_true hl)
    cases h1:noneE p.label
    · cases h2:labelRight p.label
      · rw [h1] at hN
        rw [h2] at hL
        repeat (first|(refine isCl ?_;first|refine uC (hN) ?_|refine uC (hL) ?_)|refine nx ?_)
        exact zab (by rfl) (zao (by rw [hdef,he,h1,h2];rfl))
      · cases h3:noneE p.wher
        · cases h4:exprRight p.wher
          all_goals
            rw [h1] at hN
            rw [h2] at hL
            rw [h3] at hM
            rw [h4] at hE
            repeat (first|(refine isCl ?_;first|refine uC (hN) ?_|refine uC (hL) ?_|refine uC (hM) ?_|refine uC (hE) ?_)|refine nx ?_)
            exact zab (by rfl) (zao (by rw [hdef,he,h1,h2,h3,h4];rfl))
        · rw [h1] at hN
          rw [h2] at hL
          rw [h3] at hM
          repeat (first|(refine isCl ?_;first|refine uC (hN) ?_|refine uC (hL) ?_|refine uC (hM) ?_|refine uC (hE) ?_)|refine nx ?_)
          exact zab (by rfl) (zao (by rw [hdef,he,h1,h2,h3];rfl))
    · cases h3:noneE p.wher
      · cases h4:exprRight p.wher
        all_goals
          rw [h1] at hN
          rw [h3] at hM
          rw [h4] at hE
          repeat (first|(refine isCl ?_;first|refine uC (hN) ?_|refine uC (hL) ?_|refine uC (hM) ?_|refine uC (hE) ?_)|refine nx ?_)
          exact zab (by rfl) (zao (by rw [hdef,he,h1,h3,h4];rfl))
      · rw [h1] at hN
        rw [h3] at hM
        repeat (first|(refine isCl ?_;first|refine uC (hN) ?_|refine uC (hL) ?_|refine uC (hM) ?_|refine uC (hE) ?_)|refine nx ?_)
        exact zab (by rfl) (zao (by rw [hdef,he,h1,h3];rfl))
  · have he:=zb0 (decide_eq_false hl)
    repeat refine nx ?_
    exact zab (by rfl) (zao (by rw [hdef,he];rfl))
theorem zl4 (e:Pt) (h:CallsV Tryz.prog 112 [.dat (encP e)] (.val (vB (rightP e)))):CallsV Tryz.prog 162 [.dat (encP e)] (.val (vB (!rightP e))):=by
  (refine zaa (Ty:=Ty) zad Tryz.func162 rfl rfl rfl fun w0 S0=>?_;refine enA ?_)
  cases hr:rightP e with
  | true =>
    rw [hr] at h
    repeat (first|refine uC (h) ?_|refine nx ?_)
    exact zab (by rfl) rfl
  | false =>
    rw [hr] at h
    repeat (first|refine uC (h) ?_|refine nx ?_)
    exact zab (by rfl) rfl
end Go.Proofs.YtiplihojmfbjkaaGreat
namespace Go.Proofs.YtiplihojmfbjkaaGreat
open Go.RowKit
set_option maxHeartbeats 16000000
def encT (t:Int):List D:=[.v (.int .i64 t)]
def zeroVal:Val:=⟨0,0,0,⟨#[]⟩⟩
def ofT (v:Val):Int:=if v.kind=0 then 2 else if v.kind=1∧(v.n=0∨v.n=1) then v.n else 2
def ofE (v:Val):Int:=if v.kind=0 then 0 else if v.kind=1∧(v.n=0∨v.n=1) then 0 else 4
def notT (t:Int):Int:=if t=0∨t=1 then 1 - t else 2
def andL:List Int→Int→Int
  | [],o=>o
  | t :: l,o=>if t=0 then 0 else if t=1 then andL l o else andL l 2
theorem zmU (o:Int):andL [] o=o:=by rw [andL]
theorem zmq (t:Int) (l:List Int) (o:Int):andL (t :: l) o=if t=0 then 0 else if t=1 then andL l o else andL l 2:=by rw [andL]
def valT (t:Int):Val:=if t=0∨t=1 then ⟨1,t,0,⟨#[]⟩⟩ else zeroVal
theorem tupII {a b c d:Int} (h1:a=c) (h2:b=d):VV.tup [vI a,vI b]=VV.tup [vI c,vI d]:=by rw [h1,h2]
theorem tupIB {a c:Int} {b d:Bool} (h1:a=c) (h2:b=d):VV.tup [vI a,vB b]=VV.tup [vI c,vB d]:=by rw [h1,h2]
theorem Of_v (v:Val):CallsV Tryz.prog 130 [.dat (encV v)] (.val (.tup [vI (ofT v),vI (ofE v)])):=by
  (refine zaa (Ty:=Ty) zad Tryz.func130 rfl rfl rfl fun w0 S0=>?_;refine enA ?_)
  repeat' (first|refine nx ?_|(refine nx2 ?_ ?_<;>intro hb))
  all_goals exact zab (by rfl) (tupII (by unfold ofT;(repeat' split)<;>omega) (by unfold ofE;(repeat' split)<;>omega))
theorem zjT (t:Int):CallsV Tryz.prog 283 [vI t] (.val (vB (decide (t=0∨t=1)))):=by
  (refine zaa (Ty:=Ty) zad Tryz.func283 rfl rfl rfl fun w0 S0=>?_;refine enA ?_)
  repeat' (first|refine nx ?_|(refine nx2 ?_ ?_<;>intro hb))
  all_goals exact zab (by rfl) (zao (by first|(simp [*];done)|(simp [*];rfl)))
theorem zgy (t:Int):CallsV Tryz.prog 261 [vI t] (.val (vI (notT t))):=by
  have hk:=zjT t
  by_cases h01:t=0∨t=1
  · rw [decide_eq_true h01] at hk
    have hw:IntKind.wrap .i64 (1 - t)=1 - t:=zcI (by omega) (by omega)
    (refine zaa (Ty:=Ty) zad Tryz.func261 rfl rfl rfl fun w0 S0=>?_;refine enA ?_)
    repeat' (first|refine uC (hk) ?_|refine nx ?_|(refine nx2 ?_ ?_<;>intro hb))
    all_goals exact zab (by rfl) (zaG (by unfold notT;rw [if_pos h01]))
  · rw [decide_eq_false h01] at hk
    (refine zaa (Ty:=Ty) zad Tryz.func261 rfl rfl rfl fun w0 S0=>?_;refine enA ?_)
    repeat' (first|refine uC (hk) ?_|refine nx ?_|(refine nx2 ?_ ?_<;>intro hb))
    all_goals exact zab (by rfl) (zaG (by unfold notT;rw [if_neg h01]))
theorem zfg (t:Int):CallsV Tryz.prog 259 [vI t] (.val (.dat (encV (valT t)))):=by
  have hk:=zjT t
  by_cases h01:t=0∨t=1
  · rw [decide_eq_true h01] at hk
    (refine zaa (Ty:=Ty) zad Tryz.func259 rfl rfl rfl fun w0 S0=>?_;refine enA ?_)
    repeat' (first|refine uC (hk) ?_|refine nx ?_|(refine nx2 ?_ ?_<;>intro hb))
    all_goals exact zab (by rfl) (by unfold valT;rw [if_pos h01];rfl)
  · rw [decide_eq_false h01] at hk
    (refine zaa (Ty:=Ty) zad Tryz.func259 rfl rfl rfl fun w0 S0=>?_;refine enA ?_)
    repeat' (first|refine uC (hk) ?_|refine nx ?_|(refine nx2 ?_ ?_<;>intro hb))
    all_goals exact zab (by rfl) (by unfold valT;rw [if_neg h01];rfl)
theorem znI (l:List Int):CallsV Tryz.prog 257 [vL (l.map encT)] (.val (vI (andL l 1))):=by
  (refine zaa (Ty:=Ty) zad Tryz.func257 rfl rfl rfl fun w0 S0=>?_;refine enA ?_)
  have hlm:(l.map encT).length=l.length:=List.length_map _
  refine zbm (t:=0) rfl rfl fun hlim=>?_
  repeat' (first|refine nx ?_|(refine nx2 ?_ ?_<;>intro hb))
  refine zay (α:=Nat × Int) (fun s=>[(3,vI s.2),(6,vL (l.map encT)),(7,vI ((l.map encT).length:Int)),(8,vI s.1)]) (fun _=>[]) (fun s=>s.1≤l.length∧andL l 1=andL (l.drop s.1) s.2) (fun s=>l.length - s.1) (0,1) ⟨Nat.zero_le _,rfl⟩ subA subA ?_
  intro ⟨k,o⟩ ⟨hk,hi⟩
  by_cases hlt:k < l.length
  · obtain ⟨q,hq⟩:∃ q,l[k]?=some q:=⟨_,List.getElem?_eq_getElem hlt⟩
    have hd:l.drop k=q :: l.drop (k+1):=by
      rw [List.drop_eq_getElem_cons hlt]
      rw [List.getElem?_eq_getElem hlt] at hq
      injection hq with hq
      rw [hq]
    simp only at hi
    rw [hd,zmq] at hi
    repeat' (first|refine nx ?_|(refine nx2 ?_ ?_<;>intro hb))
    · exact zab (by rfl) (zaG (by rw [hi,if_pos (by assumption)]))
    · rw [if_neg (by assumption),if_neg (by omega)] at hi
      repeat' (first|refine nx ?_|(refine nx2 ?_ ?_<;>intro hb))
      exact ⟨(k+1,2),by simp only;omega,⟨hlt,hi⟩,subA,subA⟩
    · rw [if_neg (by assumption),if_pos (by omega)] at hi
      repeat' (first|refine nx ?_|(refine nx2 ?_ ?_<;>intro hb))
      exact ⟨(k+1,o),by simp only;omega,⟨hlt,hi⟩,subA,subA⟩
  · simp only at hi
    rw [List.drop_of_length_le (by omega),zmU] at hi
    repeat' (first|refine nx ?_|(refine nx2 ?_ ?_<;>intro hb))
    exact zab (by rfl) (zaG hi.symm)
theorem Or_v (a b:Int):CallsV Tryz.prog 260 [vL [encT a,encT b]] (.val (vI (notT (andL [notT a,notT b] 1)))):=by
  have h1:=zgy a
  have h2:=zgy b
  have hA:=znI [notT a,notT b]
  have h3:=zgy (andL [notT a,notT b] 1)
  (refine zaa (Ty:=Ty) zad Tryz.func260 rfl rfl rfl fun w0 S0=>?_;refine enA ?_)
  repeat' (first|refine uMk 2 ?_|refine nx ?_|(refine nx2 ?_ ?_<;>intro hb))
  refine zay (α:=Nat × List (List D)) (fun s=>[(0,vL [encT a,encT b]),(3,.one (.win 8 0 2 2 1)),(9,vL [encT a,encT b]),(10,vI 2),(11,vI s.1)]) (fun s=>[(8,.arr 216 1 s.2)]) (fun s=>s=(0,[encT 0,encT 0])∨s=(1,[encT (notT a),encT 0])∨s=(2,[encT (notT a),encT (notT b)])) (fun s=>2 - s.1) (0,[encT 0,encT 0]) (.inl rfl) subA subA ?_
  rintro s (rfl|rfl|rfl)
  · repeat' (first|refine uC (h1) ?_|refine nx ?_|(refine nx2 ?_ ?_<;>intro hb))
    refine uWix ?_
    refine uPev [encT (notT a),encT 0] ?_
    repeat' (first|refine nx ?_|(refine nx2 ?_ ?_<;>intro hb))
    exact ⟨(1,[encT (notT a),encT 0]),by simp,.inr (.inl rfl),subA,subA⟩
  · repeat' (first|refine uC (h2) ?_|refine nx ?_|(refine nx2 ?_ ?_<;>intro hb))
    refine uWix ?_
    refine uPev [encT (notT a),encT (notT b)] ?_ (hm:=by simp)
    repeat' (first|refine nx ?_|(refine nx2 ?_ ?_<;>intro hb))
    exact ⟨(2,[encT (notT a),encT (notT b)]),by simp,.inr (.inr rfl),subA,subA⟩
  · iterate 6 refine nx ?_
    refine uArrTok (n:=2) (rows:=[encT (notT a),encT (notT b)]) 3 8 ?_ rfl (by simp)
    repeat' (first|(refine isCl ?_;first|refine uC (hA) ?_|refine uC (h3) ?_)|refine nx ?_|(refine nx2 ?_ ?_<;>intro hb))
    exact zab (by rfl) rfl
end Go.Proofs.YtiplihojmfbjkaaGreat
