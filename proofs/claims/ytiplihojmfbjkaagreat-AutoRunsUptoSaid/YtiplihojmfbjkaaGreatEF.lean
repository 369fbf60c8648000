/- Walks: the operators;what is wrong is thrown. -/
import Derived.Test.YtiplihojmfbjkaaGreatED
import Derived.Test.YtiplihojmfbjkaaGreatWM
set_option maxRecDepth 100000
namespace Go.Proofs.YtiplihojmfbjkaaGreat
open Go.RowKit
set_option maxHeartbeats 16000000
def pvWrong:Value:=.iface 267 (.agg #[])
theorem zdW (e:Int) (h:e≠4):CallsV Tryz.prog 263 [vI e] (.val (.tup [])):=by
  (refine zaa (Ty:=Ty) zad Tryz.func263 rfl rfl rfl fun w0 S0=>?_;refine enA ?_)
  repeat' (first|refine nx ?_|(refine nx2 ?_ ?_<;>intro hb))
  all_goals exact zqb (by rfl) rfl
theorem zeS:CallsP Tryz.prog 263 [vI 4] [] pvWrong:=by
  (refine zaZ (Ty:=Ty) Tryz.func263 rfl rfl rfl fun w0 S0 hp=>?_;refine enA ?_)
  iterate 6 refine nx ?_
  refine zn0 (vb:=.agg #[]) (pv:=pvWrong) rfl rfl rfl rfl rfl (show 4 < 6 by decide) (show 5 < 6 by decide) (fun a w=>?_) (fun a w h=>?_) (fun a w h=>?_) (fun _ _=>rfl)
  · kernel_rfl
  · show ((do let v ← Instr.makeInterface 267 (a.tmps.getD 4 undef);pure (Next.value v)):Sem Next).run Tryz.prog w=_
    rw [h]
    kernel_rfl
  · show ((do let v ← Instr.panic (a.tmps.getD 5 undef);pure (Next.value v)):Sem Next).run Tryz.prog w=_
    rw [h]
    rfl
def truthsV:List Val→Option (List Int)
  | []=>some []
  | v :: l=>if ofE v=4 then none else (truthsV l).map (ofT v :: ·)
theorem zfp:truthsV []=some []:=by rw [truthsV]
theorem zfd (v:Val) (l:List Val):truthsV (v :: l)=if ofE v=4 then none else (truthsV l).map (ofT v :: ·):=by rw [truthsV]
theorem ziJ {l:List Val} {ts:List Int} (h:truthsV l=some ts):ts=l.map ofT∧ ∀ v∈l,ofE v≠4:=by
  induction l generalizing ts with
  | nil=>rw [zfp] at h;injection h with h;subst h;exact ⟨rfl,by simp⟩
  | cons v l ih =>
    rw [zfd] at h
    split at h
    · cases h
    · rename_i hv
      rw [Option.map_eq_some_iff] at h
      obtain ⟨ts',h1,rfl⟩:=h
      obtain ⟨h2,h3⟩:=ih h1
      refine ⟨by rw [h2];rfl,fun u hu=>?_⟩
      rcases List.mem_cons.1 hu with rfl|hu
      · exact hv
      · exact h3 u hu
theorem zhY {l:List Val} (h:truthsV l=none):∃ k v,l[k]?=some v∧ofE v=4∧ ∀ v∈l.take k,ofE v≠4:=by
  induction l with
  | nil=>rw [zfp] at h;cases h
  | cons v l ih =>
    rw [zfd] at h
    split at h
    · rename_i hv;exact ⟨0,v,rfl,hv,by simp⟩
    · rename_i hv
      rw [Option.map_eq_none_iff] at h
      obtain ⟨k,u,h1,h2,h3⟩:=ih h
      refine ⟨k+1,u,by simpa using h1,h2,fun x hx=>?_⟩
      rw [List.take_succ_cons] at hx
      rcases List.mem_cons.1 hx with rfl|hx
      · exact hv
      · exact h3 x hx
theorem zgZ (l:List Val):sized 4 (l.map encV)=true:=by simp [sized,encV]
theorem zjF (l:List Int):sized 1 (l.map encT)=true:=by simp [sized,encT]
theorem zfH {l:List Val} (hl:l.length≤1000) (h:∀ v∈l,ofE v≠4):CallsV Tryz.prog 258 [vL (l.map encV)] (.own 216 1 ((l.map ofT).map encT)):=by
  (refine zaa (Ty:=Ty) zad Tryz.func258 rfl rfl rfl fun w0 S0=>?_;refine enA ?_)
  have hlm:(l.map encV).length=l.length:=List.length_map _
  refine zbm (t:=0) rfl rfl fun hlim=>?_
  iterate 8 refine nx ?_
  refine uNil 3 100 216 1 ?_
  repeat' (first|refine nx ?_|(refine nx2 ?_ ?_<;>intro hb))
  refine zay (α:=Nat) (fun k=>[(3,.one (.own 100 (((l.take k).map ofT).map encT))),(8,vL (l.map encV)),(9,vI ((l.map encV).length:Int)),(10,vI k)]) (fun _=>[(100,.tok 216 1)]) (fun k=>k≤l.length) (fun k=>l.length - k) 0 (Nat.zero_le _) subA subA ?_
  intro k hk
  have hs:=zjF ((l.take k).map ofT)
  by_cases hlt:k < l.length
  · obtain ⟨q,hq⟩:∃ q,l[k]?=some q:=⟨_,List.getElem?_eq_getElem hlt⟩
    have hO:=Of_v q
    have hM:=zdW (ofE q) (h q (List.mem_of_getElem? hq))
    have hnx:((l.take k).map ofT).map encT++[encT (ofT q)]=((l.take (k+1)).map ofT).map encT:=by
      rw [List.take_add_one,hq,Option.toList_some,List.map_append,List.map_append];rfl
    have hbd:(((l.take k).map ofT).map encT).length≤1000:=by
      rw [List.length_map,List.length_map,List.length_take];omega
    repeat' (first|(refine isCl ?_;first|refine uC (hO) ?_|refine uC (hM) ?_)|refine nx ?_|(refine nx2 ?_ ?_<;>intro hb))
    exact ⟨k+1,by omega,hlt,subA,subA⟩
  · have hkl:k=l.length:=by omega
    subst hkl
    rw [List.take_length]
    repeat' (first|refine nx ?_|(refine nx2 ?_ ?_<;>intro hb))
    exact zbZ (by rfl) (by rfl) rfl
theorem zfF {l:List Val} (hl:l.length≤1000) (h:truthsV l=none):CallsP Tryz.prog 258 [vL (l.map encV)] [] pvWrong:=by
  obtain ⟨K,v,hv,he,hall⟩:=zhY h
  have hK:K < l.length:=(List.getElem?_eq_some_iff.1 hv).1
  (refine zaZ (Ty:=Ty) Tryz.func258 rfl rfl rfl fun w0 S0 hp=>?_;refine enA ?_)
  have hlm:(l.map encV).length=l.length:=List.length_map _
  refine zbm (t:=0) rfl rfl fun hlim=>?_
  iterate 8 refine nx ?_
  refine uNil 3 100 216 1 ?_
  repeat' (first|refine nx ?_|(refine nx2 ?_ ?_<;>intro hb))
  refine zay (α:=Nat) (fun k=>[(3,.one (.own 100 (((l.take k).map ofT).map encT))),(8,vL (l.map encV)),(9,vI ((l.map encV).length:Int)),(10,vI k)]) (fun _=>[(100,.tok 216 1)]) (fun k=>k≤K) (fun k=>K - k) 0 (Nat.zero_le _) subA subA ?_
  intro k hk
  have hs:=zjF ((l.take k).map ofT)
  have hlt:k < l.length:=by omega
  obtain ⟨q,hq⟩:∃ q,l[k]?=some q:=⟨_,List.getElem?_eq_getElem hlt⟩
  have hO:=Of_v q
  by_cases hkK:k < K
  · have hM:=zdW (ofE q) (hall q (by rw [List.mem_take_iff_getElem];exact ⟨k,by omega,by rw [List.getElem?_eq_getElem hlt] at hq;injection hq⟩))
    have hnx:((l.take k).map ofT).map encT++[encT (ofT q)]=((l.take (k+1)).map ofT).map encT:=by
      rw [List.take_add_one,hq,Option.toList_some,List.map_append,List.map_append];rfl
    have hbd:(((l.take k).map ofT).map encT).length≤1000:=by
      rw [List.length_map,List.length_map,List.length_take];omega
    repeat' (first|(refine isCl ?_;first|refine uC (hO) ?_|refine uC (hM) ?_)|refine nx ?_|(refine nx2 ?_ ?_<;>intro hb))
    exact ⟨k+1,by omega,hkK,subA,subA⟩
  · obtain rfl:k=K:=by omega
    rw [hv] at hq
    injection hq with hq
    subst hq
    rw [he] at hO
    repeat' (first|(refine zb6 1 263 rfl rfl ?_;simp only [List.take_succ_cons,List.take_zero])|refine uC (hO) ?_|refine nx ?_|(refine nx2 ?_ ?_<;>intro hb))
    exact uPan zeS fun _ _=>rfl
end Go.Proofs.YtiplihojmfbjkaaGreat
namespace Go.Proofs.YtiplihojmfbjkaaGreat
open Go.RowKit
set_option maxHeartbeats 16000000
abbrev rkS (ps:List (List D)) (ov:Bool):Obs:=[(1001,.obj 271 [.d (.sl ps),.d (.v (.bool ov))])]
structure Nm (s:ByteArray) (c:Nat):Prop where
  n0:(s.toList==ByteArray.toList ⟨#[97,110,100]⟩)=Nat.beq c 0
  n1:(s.toList==ByteArray.toList ⟨#[111,114]⟩)=Nat.beq c 1
  n2:(s.toList==ByteArray.toList ⟨#[110,111,116]⟩)=Nat.beq c 2
  n3:(s.toList==ByteArray.toList ⟨#[105,115,110,117,108,108]⟩)=Nat.beq c 3
  n4:(s.toList==ByteArray.toList ⟨#[43]⟩)=Nat.beq c 4
  n5:(s.toList==ByteArray.toList ⟨#[45]⟩)=Nat.beq c 5
  n6:(s.toList==ByteArray.toList ⟨#[42]⟩)=Nat.beq c 6
theorem zpx {s:ByteArray} {ps:List (List D)} {ov:Bool} (h:Nm s 0) {l:List Val} (hl:l.length≤1000) (ht:∀ v∈l,ofE v≠4):CallsM Tryz.prog 222 [.one (.po 1001 0),vS s,vL (l.map encV)] (rkS ps ov) (.dat (encV (valT (andL (l.map ofT) 1)))) (rkS ps ov):=by
  have g0:(s.toList==ByteArray.toList ⟨#[97,110,100]⟩)=true:=h.n0
  have hT:=zfH hl ht
  have hA:=znI (l.map ofT)
  have hV:=zfg (andL (l.map ofT) 1)
  (refine zav (Ty:=Ty) zad Tryz.func222 rfl rfl rfl (by rfl) fun w0 S0 hp=>?_;refine enA ?_)
  repeat' (first|(refine isCl ?_;first|refine uCO (hT) ?_|refine uC (hA) ?_|refine uC (hV) ?_)|(refine imCl ?_;first|refine mCO (hT) ?_|refine mC (hA) ?_|refine mC (hV) ?_)|refine nx ?_|(refine nx2 ?_ ?_<;>intro hb))
  all_goals exact zbt (by rfl) rfl ghasA
theorem zqd {s:ByteArray} {ps:List (List D)} {ov:Bool} (h:Nm s 1) {a b:Val} (ht:∀ v∈[a,b],ofE v≠4):CallsM Tryz.prog 222 [.one (.po 1001 0),vS s,vL ([a,b].map encV)] (rkS ps ov) (.dat (encV (valT (notT (andL [notT (ofT a),notT (ofT b)] 1))))) (rkS ps ov):=by
  have g0:(s.toList==ByteArray.toList ⟨#[97,110,100]⟩)=false:=h.n0
  have g1:(s.toList==ByteArray.toList ⟨#[111,114]⟩)=true:=h.n1
  have hT:=zfH (l:=[a,b]) (by simp) ht
  have hA:=Or_v (ofT a) (ofT b)
  have hV:=zfg (notT (andL [notT (ofT a),notT (ofT b)] 1))
  (refine zav (Ty:=Ty) zad Tryz.func222 rfl rfl rfl (by rfl) fun w0 S0 hp=>?_;refine enA ?_)
  repeat' (first|(refine isCl ?_;first|refine uCO (hT) ?_|refine uC (hA) ?_|refine uC (hV) ?_)|(refine imCl ?_;first|refine mCO (hT) ?_|refine mC (hA) ?_|refine mC (hV) ?_)|refine nx ?_|(refine nx2 ?_ ?_<;>intro hb))
  all_goals exact zbt (by rfl) rfl ghasA
theorem zpt {s:ByteArray} {ps:List (List D)} {ov:Bool} (h:Nm s 2) {a:Val} (ht:∀ v∈[a],ofE v≠4):CallsM Tryz.prog 222 [.one (.po 1001 0),vS s,vL ([a].map encV)] (rkS ps ov) (.dat (encV (valT (notT (ofT a))))) (rkS ps ov):=by
  have g0:(s.toList==ByteArray.toList ⟨#[97,110,100]⟩)=false:=h.n0
  have g1:(s.toList==ByteArray.toList ⟨#[111,114]⟩)=false:=h.n1
  have g2:(s.toList==ByteArray.toList ⟨#[110,111,116]⟩)=true:=h.n2
  have hT:=zfH (l:=[a]) (by simp) ht
  have hA:=zgy (ofT a)
  have hV:=zfg (notT (ofT a))
  (refine zav (Ty:=Ty) zad Tryz.func222 rfl rfl rfl (by rfl) fun w0 S0 hp=>?_;refine enA ?_)
  repeat' (first|(refine isCl ?_;first|refine uCO (hT) ?_|refine uC (hA) ?_|refine uC (hV) ?_)|(refine imCl ?_;first|refine mCO (hT) ?_|refine mC (hA) ?_|refine mC (hV) ?_)|refine nx ?_|(refine nx2 ?_ ?_<;>intro hb))
  all_goals exact zbt (by rfl) rfl ghasA
theorem znP {s:ByteArray} {ps:List (List D)} {ov:Bool} (h:Nm s 3) {a:Val}:CallsM Tryz.prog 222 [.one (.po 1001 0),vS s,vL ([a].map encV)] (rkS ps ov) (.dat (encV (valT (if a.kind=0 then 1 else 0)))) (rkS ps ov):=by
  have g0:(s.toList==ByteArray.toList ⟨#[97,110,100]⟩)=false:=h.n0
  have g1:(s.toList==ByteArray.toList ⟨#[111,114]⟩)=false:=h.n1
  have g2:(s.toList==ByteArray.toList ⟨#[110,111,116]⟩)=false:=h.n2
  have g3:(s.toList==ByteArray.toList ⟨#[105,115,110,117,108,108]⟩)=true:=h.n3
  have hV1:=zfg 1
  have hV0:=zfg 0
  (refine zav (Ty:=Ty) zad Tryz.func222 rfl rfl rfl (by rfl) fun w0 S0 hp=>?_;refine enA ?_)
  repeat' (first|(refine isCl ?_;first|refine uC (hV1) ?_|refine uC (hV0) ?_)|(refine imCl ?_;first|refine mC (hV1) ?_|refine mC (hV0) ?_)|refine nx ?_|(refine nx2 ?_ ?_<;>intro hb))
  all_goals exact zbt (by rfl) (by first|(rw [if_pos (by assumption)];done)|(rw [if_neg (by assumption)];done)) ghasA
theorem znp {s:ByteArray} {ps:List (List D)} {ov:Bool} (h:Nm s 0) {l:List Val} (hl:l.length≤1000) (ht:truthsV l=none):CallsP Tryz.prog 222 [.one (.po 1001 0),vS s,vL (l.map encV)] (rkS ps ov) pvWrong:=by
  have g0:(s.toList==ByteArray.toList ⟨#[97,110,100]⟩)=true:=h.n0
  have hT:=zfF hl ht
  (refine zaZ (Ty:=Ty) Tryz.func222 rfl rfl rfl fun w0 S0 hp=>?_;refine enA ?_)
  repeat' (first|(refine zb6 1 258 rfl rfl ?_;simp only [List.take_succ_cons,List.take_zero])|refine nx ?_|(refine nx2 ?_ ?_<;>intro hb))
  exact uPan hT fun _ _=>rfl
theorem zoG {s:ByteArray} {ps:List (List D)} {ov:Bool} (h:Nm s 1) {l:List Val} (hl:l.length≤1000) (ht:truthsV l=none):CallsP Tryz.prog 222 [.one (.po 1001 0),vS s,vL (l.map encV)] (rkS ps ov) pvWrong:=by
  have g0:(s.toList==ByteArray.toList ⟨#[97,110,100]⟩)=false:=h.n0
  have g1:(s.toList==ByteArray.toList ⟨#[111,114]⟩)=true:=h.n1
  have hT:=zfF hl ht
  (refine zaZ (Ty:=Ty) Tryz.func222 rfl rfl rfl fun w0 S0 hp=>?_;refine enA ?_)
  repeat' (first|(refine zb6 1 258 rfl rfl ?_;simp only [List.take_succ_cons,List.take_zero])|refine nx ?_|(refine nx2 ?_ ?_<;>intro hb))
  exact uPan hT fun _ _=>rfl
theorem zmV {s:ByteArray} {ps:List (List D)} {ov:Bool} (h:Nm s 2) {l:List Val} (hl:l.length≤1000) (ht:truthsV l=none):CallsP Tryz.prog 222 [.one (.po 1001 0),vS s,vL (l.map encV)] (rkS ps ov) pvWrong:=by
  have g0:(s.toList==ByteArray.toList ⟨#[97,110,100]⟩)=false:=h.n0
  have g1:(s.toList==ByteArray.toList ⟨#[111,114]⟩)=false:=h.n1
  have g2:(s.toList==ByteArray.toList ⟨#[110,111,116]⟩)=true:=h.n2
  have hT:=zfF hl ht
  (refine zaZ (Ty:=Ty) Tryz.func222 rfl rfl rfl fun w0 S0 hp=>?_;refine enA ?_)
  repeat' (first|(refine zb6 1 258 rfl rfl ?_;simp only [List.take_succ_cons,List.take_zero])|refine nx ?_|(refine nx2 ?_ ?_<;>intro hb))
  exact uPan hT fun _ _=>rfl
theorem zoU {s:ByteArray} {ps:List (List D)} {ov:Bool} (h:Nm s 4) (ha:Ari s 0) {a b:Val} (ht:(reckonR 0 a b).2≠4):CallsM Tryz.prog 222 [.one (.po 1001 0),vS s,vL ([a,b].map encV)] (rkS ps ov) (.dat (encV (reckonR 0 a b).1)) (rkS ps (ov || (reckonR 0 a b).2==7)):=by
  have g0:(s.toList==ByteArray.toList ⟨#[97,110,100]⟩)=false:=h.n0
  have g1:(s.toList==ByteArray.toList ⟨#[111,114]⟩)=false:=h.n1
  have g2:(s.toList==ByteArray.toList ⟨#[110,111,116]⟩)=false:=h.n2
  have g3:(s.toList==ByteArray.toList ⟨#[105,115,110,117,108,108]⟩)=false:=h.n3
  have g4:(s.toList==ByteArray.toList ⟨#[43]⟩)=true:=h.n4
  have hR:=zcJ ha a b
  obtain ⟨r,hr⟩:∃ r,reckonR 0 a b=r:=⟨_,rfl⟩
  rw [hr] at hR ht ⊢
  have hM:=zdW r.2 ht
  cases ov
  all_goals
    (refine zav (Ty:=Ty) zad Tryz.func222 rfl rfl rfl (by rfl) fun w0 S0 hp=>?_;refine enA ?_)
    repeat' (first|(refine isCl ?_;first|refine uC (hR) ?_|refine uC (hM) ?_)|(refine imCl ?_;first|refine mC (hR) ?_|refine mC (hM) ?_)|refine nx ?_|(refine nx2 ?_ ?_<;>intro hb))
    all_goals exact zbt (by rfl) rfl ghasA
theorem zng {s:ByteArray} {ps:List (List D)} {ov:Bool} (h:Nm s 4) (ha:Ari s 0) {a b:Val} (ht:(reckonR 0 a b).2=4):CallsP Tryz.prog 222 [.one (.po 1001 0),vS s,vL ([a,b].map encV)] (rkS ps ov) pvWrong:=by
  have g0:(s.toList==ByteArray.toList ⟨#[97,110,100]⟩)=false:=h.n0
  have g1:(s.toList==ByteArray.toList ⟨#[111,114]⟩)=false:=h.n1
  have g2:(s.toList==ByteArray.toList ⟨#[110,111,116]⟩)=false:=h.n2
  have g3:(s.toList==ByteArray.toList ⟨#[105,115,110,117,108,108]⟩)=false:=h.n3
  have g4:(s.toList==ByteArray.toList ⟨#[43]⟩)=true:=h.n4
  have hR:=zcJ ha a b
  obtain ⟨r,hr⟩:∃ r,reckonR 0 a b=r:=⟨_,rfl⟩
  rw [hr] at hR ht
  rw [ht] at hR
  (refine zaZ (Ty:=Ty) Tryz.func222 rfl rfl rfl fun w0 S0 hp=>?_;refine enA ?_)
  repeat' (first|(refine zb6 1 263 rfl rfl ?_;simp only [List.take_succ_cons,List.take_zero])|refine uC (hR) ?_|refine mC (hR) ?_|refine nx ?_|(refine nx2 ?_ ?_<;>intro hb))
  exact uPan zeS fun _ _=>rfl
theorem zpO {s:ByteArray} {ps:List (List D)} {ov:Bool} (h:Nm s 5) (ha:Ari s 1) {a b:Val} (ht:(reckonR 1 a b).2≠4):CallsM Tryz.prog 222 [.one (.po 1001 0),vS s,vL ([a,b].map encV)] (rkS ps ov) (.dat (encV (reckonR 1 a b).1)) (rkS ps (ov || (reckonR 1 a b).2==7)):=by
  have g0:(s.toList==ByteArray.toList ⟨#[97,110,100]⟩)=false:=h.n0
  have g1:(s.toList==ByteArray.toList ⟨#[111,114]⟩)=false:=h.n1
  have g2:(s.toList==ByteArray.toList ⟨#[110,111,116]⟩)=false:=h.n2
  have g3:(s.toList==ByteArray.toList ⟨#[105,115,110,117,108,108]⟩)=false:=h.n3
  have g4:(s.toList==ByteArray.toList ⟨#[43]⟩)=false:=h.n4
  have g5:(s.toList==ByteArray.toList ⟨#[45]⟩)=true:=h.n5
  have hR:=zcJ ha a b
  obtain ⟨r,hr⟩:∃ r,reckonR 1 a b=r:=⟨_,rfl⟩
  rw [hr] at hR ht ⊢
  have hM:=zdW r.2 ht
  cases ov
  all_goals
    (refine zav (Ty:=Ty) zad Tryz.func222 rfl rfl rfl (by rfl) fun w0 S0 hp=>?_;refine enA ?_)
    repeat' (first|(refine isCl ?_;first|refine uC (hR) ?_|refine uC (hM) ?_)|(refine imCl ?_;first|refine mC (hR) ?_|refine mC (hM) ?_)|refine nx ?_|(refine nx2 ?_ ?_<;>intro hb))
    all_goals exact zbt (by rfl) rfl ghasA
theorem zmW {s:ByteArray} {ps:List (List D)} {ov:Bool} (h:Nm s 5) (ha:Ari s 1) {a b:Val} (ht:(reckonR 1 a b).2=4):CallsP Tryz.prog 222 [.one (.po 1001 0),vS s,vL ([a,b].map encV)] (rkS ps ov) pvWrong:=by
  have g0:(s.toList==ByteArray.toList ⟨#[97,110,100]⟩)=false:=h.n0
  have g1:(s.toList==ByteArray.toList ⟨#[111,114]⟩)=false:=h.n1
  have g2:(s.toList==ByteArray.toList ⟨#[110,111,116]⟩)=false:=h.n2
  have g3:(s.toList==ByteArray.toList ⟨#[105,115,110,117,108,108]⟩)=false:=h.n3
  have g4:(s.toList==ByteArray.toList ⟨#[43]⟩)=false:=h.n4
  have g5:(s.toList==ByteArray.toList ⟨#[45]⟩)=true:=h.n5
  have hR:=zcJ ha a b
  obtain ⟨r,hr⟩:∃ r,reckonR 1 a b=r:=⟨_,rfl⟩
  rw [hr] at hR ht
  rw [ht] at hR
  (refine zaZ (Ty:=Ty) Tryz.func222 rfl rfl rfl fun w0 S0 hp=>?_;refine enA ?_)
  repeat' (first|(refine zb6 1 263 rfl rfl ?_;simp only [List.take_succ_cons,List.take_zero])|refine uC (hR) ?_|refine mC (hR) ?_|refine nx ?_|(refine nx2 ?_ ?_<;>intro hb))
  exact uPan zeS fun _ _=>rfl
theorem zo8 {s:ByteArray} {ps:List (List D)} {ov:Bool} (h:Nm s 6) (ha:Ari s 2) {a b:Val} (ht:(reckonR 2 a b).2≠4):CallsM Tryz.prog 222 [.one (.po 1001 0),vS s,vL ([a,b].map encV)] (rkS ps ov) (.dat (encV (reckonR 2 a b).1)) (rkS ps (ov || (reckonR 2 a b).2==7)):=by
  have g0:(s.toList==ByteArray.toList ⟨#[97,110,100]⟩)=false:=h.n0
  have g1:(s.toList==ByteArray.toList ⟨#[111,114]⟩)=false:=h.n1
  have g2:(s.toList==ByteArray.toList ⟨#[110,111,116]⟩)=false:=h.n2
  have g3:(s.toList==ByteArray.toList ⟨#[105,115,110,117,108,108]⟩)=false:=h.n3
  have g4:(s.toList==ByteArray.toList ⟨#[43]⟩)=false:=h.n4
  have g5:(s.toList==ByteArray.toList ⟨#[45]⟩)=false:=h.n5
  have g6:(s.toList==ByteArray.toList ⟨#[42]⟩)=true:=h.n6
  have hR:=zcJ ha a b
  obtain ⟨r,hr⟩:∃ r,reckonR 2 a b=r:=⟨_,rfl⟩
  rw [hr] at hR ht ⊢
  have hM:=zdW r.2 ht
  cases ov
  all_goals
    (refine zav (Ty:=Ty) zad Tryz.func222 rfl rfl rfl (by rfl) fun w0 S0 hp=>?_;refine enA ?_)
    repeat' (first|(refine isCl ?_;first|refine uC (hR) ?_|refine uC (hM) ?_)|(refine imCl ?_;first|refine mC (hR) ?_|refine mC (hM) ?_)|refine nx ?_|(refine nx2 ?_ ?_<;>intro hb))
    all_goals exact zbt (by rfl) rfl ghasA
theorem znk {s:ByteArray} {ps:List (List D)} {ov:Bool} (h:Nm s 6) (ha:Ari s 2) {a b:Val} (ht:(reckonR 2 a b).2=4):CallsP Tryz.prog 222 [.one (.po 1001 0),vS s,vL ([a,b].map encV)] (rkS ps ov) pvWrong:=by
  have g0:(s.toList==ByteArray.toList ⟨#[97,110,100]⟩)=false:=h.n0
  have g1:(s.toList==ByteArray.toList ⟨#[111,114]⟩)=false:=h.n1
  have g2:(s.toList==ByteArray.toList ⟨#[110,111,116]⟩)=false:=h.n2
  have g3:(s.toList==ByteArray.toList ⟨#[105,115,110,117,108,108]⟩)=false:=h.n3
  have g4:(s.toList==ByteArray.toList ⟨#[43]⟩)=false:=h.n4
  have g5:(s.toList==ByteArray.toList ⟨#[45]⟩)=false:=h.n5
  have g6:(s.toList==ByteArray.toList ⟨#[42]⟩)=true:=h.n6
  have hR:=zcJ ha a b
  obtain ⟨r,hr⟩:∃ r,reckonR 2 a b=r:=⟨_,rfl⟩
  rw [hr] at hR ht
  rw [ht] at hR
  (refine zaZ (Ty:=Ty) Tryz.func222 rfl rfl rfl fun w0 S0 hp=>?_;refine enA ?_)
  repeat' (first|(refine zb6 1 263 rfl rfl ?_;simp only [List.take_succ_cons,List.take_zero])|refine uC (hR) ?_|refine mC (hR) ?_|refine nx ?_|(refine nx2 ?_ ?_<;>intro hb))
  exact uPan zeS fun _ _=>rfl
theorem zoK {s:ByteArray} {ps:List (List D)} {ov:Bool} (h:Nm s 7) {f:Int→Bool} {ne:Bool} (ha:Six s f ne) {a b:Val} (ht:(testR f ne a b).2≠4):CallsM Tryz.prog 222 [.one (.po 1001 0),vS s,vL ([a,b].map encV)] (rkS ps ov) (.dat (encV (testR f ne a b).1)) (rkS ps ov):=by
  have g0:(s.toList==ByteArray.toList ⟨#[97,110,100]⟩)=false:=h.n0
  have g1:(s.toList==ByteArray.toList ⟨#[111,114]⟩)=false:=h.n1
  have g2:(s.toList==ByteArray.toList ⟨#[110,111,116]⟩)=false:=h.n2
  have g3:(s.toList==ByteArray.toList ⟨#[105,115,110,117,108,108]⟩)=false:=h.n3
  have g4:(s.toList==ByteArray.toList ⟨#[43]⟩)=false:=h.n4
  have g5:(s.toList==ByteArray.toList ⟨#[45]⟩)=false:=h.n5
  have g6:(s.toList==ByteArray.toList ⟨#[42]⟩)=false:=h.n6
  have hR:=zk6 ha a b
  obtain ⟨r,hr⟩:∃ r,testR f ne a b=r:=⟨_,rfl⟩
  rw [hr] at hR ht ⊢
  have hM:=zdW r.2 ht
  (refine zav (Ty:=Ty) zad Tryz.func222 rfl rfl rfl (by rfl) fun w0 S0 hp=>?_;refine enA ?_)
  repeat' (first|(refine isCl ?_;first|refine uC (hR) ?_|refine uC (hM) ?_)|(refine imCl ?_;first|refine mC (hR) ?_|refine mC (hM) ?_)|refine nx ?_|(refine nx2 ?_ ?_<;>intro hb))
  all_goals exact zbt (by rfl) rfl ghasA
theorem zl3 {s:ByteArray} {ps:List (List D)} {ov:Bool} (h:Nm s 7) {f:Int→Bool} {ne:Bool} (ha:Six s f ne) {a b:Val} (ht:(testR f ne a b).2=4):CallsP Tryz.prog 222 [.one (.po 1001 0),vS s,vL ([a,b].map encV)] (rkS ps ov) pvWrong:=by
  have g0:(s.toList==ByteArray.toList ⟨#[97,110,100]⟩)=false:=h.n0
  have g1:(s.toList==ByteArray.toList ⟨#[111,114]⟩)=false:=h.n1
  have g2:(s.toList==ByteArray.toList ⟨#[110,111,116]⟩)=false:=h.n2
  have g3:(s.toList==ByteArray.toList ⟨#[105,115,110,117,108,108]⟩)=false:=h.n3
  have g4:(s.toList==ByteArray.toList ⟨#[43]⟩)=false:=h.n4
  have g5:(s.toList==ByteArray.toList ⟨#[45]⟩)=false:=h.n5
  have g6:(s.toList==ByteArray.toList ⟨#[42]⟩)=false:=h.n6
  have hR:=zk6 ha a b
  obtain ⟨r,hr⟩:∃ r,testR f ne a b=r:=⟨_,rfl⟩
  rw [hr] at hR ht
  rw [ht] at hR
  (refine zaZ (Ty:=Ty) Tryz.func222 rfl rfl rfl fun w0 S0 hp=>?_;refine enA ?_)
  repeat' (first|(refine zb6 1 263 rfl rfl ?_;simp only [List.take_succ_cons,List.take_zero])|refine uC (hR) ?_|refine mC (hR) ?_|refine nx ?_|(refine nx2 ?_ ?_<;>intro hb))
  exact uPan zeS fun _ _=>rfl
end Go.Proofs.YtiplihojmfbjkaaGreat
