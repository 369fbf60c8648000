/- Plain laws of queries: what becomes of one that may be, if its pattern is repeated without end, or has one node more. -/
import Derived.Test.YtgdgcloenhnbiaaGL
import Derived.Test.YtgdgcloenhnbiaaVO
import Derived.Test.YtgdgcloenhnbiaaN0
import Derived.Test.YtgdgcloenhnbiaaWV
namespace Go.Proofs.Ytgdgcloenhnbiaa
open Go.RowKit
theorem depthP_mono : ∀ (n : Nat) (p : Pt), depthP n p ≤ depthP (n + 1) p
  | 0, p => by rw [depthP_zero, depthP_succ]; omega
  | n + 1, p => by
    rw [depthP_succ, depthP_succ]
    have : ∀ (l : List Pt) (a b : Nat), a ≤ b → l.foldl (fun d k => max d (depthP n k)) a ≤ l.foldl (fun d k => max d (depthP (n + 1) k)) b := by
      intro l
      induction l with
      | nil => intro a b h; exact h
      | cons x l ih =>
        intro a b h
        have := depthP_mono n x
        refine ih _ _ ?_
        show max a (depthP n x) ≤ max b (depthP (n + 1) x)
        omega
    have := this p.kids 0 0 (Nat.le_refl _)
    omega
theorem depth_one (p : Pt) (k : Pt) (h : p.kids = [k]) : depthP 50 p ≤ depthP 50 k + 1 := by
  rw [depthP_succ, h]
  have : depthP 49 k ≤ depthP 50 k := depthP_mono 49 k
  show max 0 (depthP 49 k) + 1 ≤ _
  omega
theorem depth_two (p : Pt) (a b : Pt) (h : p.kids = [a, b]) : depthP 50 p ≤ max (depthP 50 a) (depthP 50 b) + 1 := by
  rw [depthP_succ, h]
  have : depthP 49 a ≤ depthP 50 a := depthP_mono 49 a
  have : depthP 49 b ≤ depthP 50 b := depthP_mono 49 b
  show max (max 0 (depthP 49 a)) (depthP 49 b) + 1 ≤ _
  omega
theorem len_pairs3 (p q : Pt) : lenP (groupP 3 [p, q]) = andS (lenP p) (lenP q) := by
  rw [len_seq (p := groupP 3 [p, q]) rfl]
  show spanS [lenP p, lenP q] = _
  rw [seq_cons _ (ok_len p), seq_one (ok_len q)]
/-- what a query that may be is -/
structure OkQ (q : Qy) : Prop where
  head : headQ q = true
  deep : depthP 50 q.pat ≤ 50
  right : rightP q.pat = true
  nodup : (varsP q.pat).Nodup
  ends : endsP q.pat = true
  size : sizeN q.pat ≤ 400
  long : ¬ ((lenP q.pat).high = none ∧ q.mode = 0 ∧ q.sel = 0)
theorem ok_of {q : Qy} (h : checkQ q = 0) : OkQ q := by
  rw [check_eq] at h
  cases h1 : headQ q with
  | false => rw [if_pos h1] at h; cases h
  | true =>
    rw [if_neg (by rw [h1]; decide)] at h
    by_cases h2 : 50 < depthP 50 q.pat
    · rw [if_pos h2] at h; cases h
    rw [if_neg h2] at h
    cases h3 : rightP q.pat with
    | false => rw [if_pos h3] at h; cases h
    | true =>
      rw [if_neg (by rw [h3]; decide)] at h
      unfold tailN at h
      by_cases h4 : (varsP q.pat).Nodup
      · rw [if_pos h4] at h
        cases h5 : endsP q.pat with
        | false => rw [if_pos h5] at h; cases h
        | true =>
          rw [if_neg (by rw [h5]; decide)] at h
          by_cases h6 : 400 < sizeN q.pat
          · rw [if_pos h6] at h; cases h
          rw [if_neg h6] at h
          by_cases h7 : (lenP q.pat).high = none ∧ q.mode = 0 ∧ q.sel = 0
          · rw [if_pos h7] at h; cases h
          exact ⟨h1, by omega, h3, h4, h5, by omega, h7⟩
      · rw [if_neg h4] at h; cases h
theorem OkQ.check {q : Qy} (h : OkQ q) : checkQ q = 0 := by
  rw [check_eq, if_neg (by rw [h.head]; decide), if_neg (by have := h.deep; omega), if_neg (by rw [h.right]; decide)]
  unfold tailN
  rw [if_pos h.nodup, if_neg (by rw [h.ends]; decide), if_neg (by have := h.size; omega), if_neg h.long]
theorem empty_ : emptyS ⟨#[]⟩ = true := by unfold emptyS; rw [ByteArray.toList_eq]; rfl
theorem noneZ : noneE zE = true := by unfold noneE zE zeroV zVal; simp only [empty_]; decide
theorem ownV_no {p : Pt} (h : p.var = ⟨#[]⟩) : ownV p = [] := by unfold ownV; rw [h, if_pos empty_]
theorem vars_quant (p : Pt) (l m : Int) : varsP (quantV p l m) = varsP p := by
  rw [varsP_eq]
  show ownV (quantV p l m) ++ [p].flatMap varsP = _
  rw [List.flatMap_cons, List.flatMap_nil, List.append_nil, ownV_no rfl, List.nil_append]
theorem vars_seq (a b : Pt) : varsP (groupP 3 [a, b]) = varsP a ++ varsP b := by
  rw [varsP_eq]
  show ownV (groupP 3 [a, b]) ++ [a, b].flatMap varsP = _
  rw [List.flatMap_cons, List.flatMap_cons, List.flatMap_nil, List.append_nil, ownV_no rfl, List.nil_append]
theorem vars_node (s : ByteArray) : varsP (nodeV s) = if emptyS s = true then [] else [s] := by
  rw [varsP_eq]
  show ownV (nodeV s) ++ [].flatMap varsP = _
  rw [List.flatMap_nil, List.append_nil]; rfl
theorem ends_quant (p : Pt) (l m : Int) : endsP (quantV p l m) = (decide (0 < (lenP p).low) && endsP p) := by
  rw [endsP_eq]
  show (endB (quantV p l m) && [p].all endsP) = _
  rw [List.all_cons, List.all_nil, Bool.and_true]
  congr 1
theorem ends_seq (a b : Pt) : endsP (groupP 3 [a, b]) = (endsP a && endsP b) := by
  rw [endsP_eq]
  show (endB (groupP 3 [a, b]) && [a, b].all endsP) = _
  rw [List.all_cons, List.all_cons, List.all_nil, Bool.and_true]
  rfl
theorem node_facts (s : ByteArray) : rightP (nodeV s) = true ∧ endsP (nodeV s) = true ∧ sizeN (nodeV s) = 1 ∧ depthP 50 (nodeV s) = 1 ∧ lenP (nodeV s) = unitS := by
  refine ⟨?_, ?_, ?_, ?_, ?_⟩
  · rw [rightP_eq, if_pos (show (nodeV s).kind = 1 from rfl)]
    show (plainP (nodeV s) && (nodeV s).dir == 0 && elemOK (nodeV s)) = true
    simp [plainP, elemOK, nodeV, noneZ]
  · rw [endsP_eq]; rfl
  · rw [sizeN_eq]; rfl
  · rw [depthP_succ]; rfl
  · rw [lenP_eq]; rfl
/-- so many times, without end -/
theorem ends_law {q : Qy} (h : OkQ q) (hd : depthP 50 q.pat ≤ 40) (hz : sizeN q.pat ≤ 100) {m s k l : Int} (hm : 0 ≤ m ∧ m ≤ 3) (hs : 0 ≤ s ∧ s ≤ 3) (hk : k = if s = 3 then 2 else 0) (hl : 0 ≤ l ∧ l ≤ 1) :
    checkQ ⟨m, s, k, quantV q.pat l (-1)⟩ = if (lenP q.pat).low = 0 ∨ (m = 0 ∧ s = 0) then 5 else 0 := by
  have hhead : headQ ⟨m, s, k, quantV q.pat l (-1)⟩ = true := by
    rw [head_iff]
    unfold HeadP
    simp only
    by_cases h3 : s = 3
    · rw [if_pos h3] at hk; omega
    · rw [if_neg h3] at hk; omega
  have hdp := depth_one (quantV q.pat l (-1)) q.pat rfl
  have hr : rightP (quantV q.pat l (-1)) = true := right_quant_mk h.right ⟨by omega, by omega⟩ (.inl rfl)
  have ht : timesP (quantV q.pat l (-1)) = l.toNat + 1 := by
    unfold timesP quantV
    simp only
    rw [if_pos (by decide)]
    omega
  have hsz := sizeN_quant (p := quantV q.pat l (-1)) rfl rfl
  rw [ht] at hsz
  have hsz2 : (sizeN q.pat + 1) * (l.toNat + 1) ≤ 101 * 2 := Nat.mul_le_mul (by omega) (by omega)
  have hlen : lenP (quantV q.pat l (-1)) = timesS (lenP q.pat) l (-1) := len_quant rfl rfl
  rw [check_eq, if_neg (by rw [hhead]; decide), if_neg (by show ¬ 50 < depthP 50 (quantV q.pat l (-1)); omega), if_neg (by show ¬ rightP (quantV q.pat l (-1)) = false; rw [hr]; decide)]
  unfold tailN
  simp only
  rw [vars_quant, if_pos h.nodup, ends_quant, h.ends, Bool.and_true]
  by_cases h0 : (lenP q.pat).low = 0
  · rw [if_pos (by simp [h0]), if_pos (.inl h0)]
  · rw [if_neg (by simp; omega), if_neg (by omega)]
    have hh : (lenP (quantV q.pat l (-1))).high = none := by
      rw [hlen]; unfold timesS; simp
    by_cases h1 : m = 0 ∧ s = 0
    · rw [if_pos ⟨hh, h1.1, h1.2⟩, if_pos (.inr h1)]
    · rw [if_neg (fun h => h1 h.2), if_neg (fun h => h.elim h0 h1)]
/-- one node more, of a name that is not there, or of none -/
theorem more_law {q : Qy} (h : OkQ q) (hd : depthP 50 q.pat ≤ 40) (hz : sizeN q.pat ≤ 100) (s : ByteArray) (hs : s ∉ varsP q.pat) : checkQ ⟨q.mode, q.sel, q.k, groupP 3 [q.pat, nodeV s]⟩ = 0 := by
  obtain ⟨n1, n2, n3, n4, n5⟩ := node_facts s
  have hdp := depth_two (groupP 3 [q.pat, nodeV s]) q.pat (nodeV s) rfl
  refine OkQ.check ⟨?_, ?_, ?_, ?_, ?_, ?_, ?_⟩
  · exact h.head
  · show depthP 50 (groupP 3 [q.pat, nodeV s]) ≤ 50; omega
  · exact right_group_mk (.inl rfl) (by simp) fun x hx => by
      rcases List.mem_cons.1 hx with rfl | hx
      · exact h.right
      · obtain rfl := List.mem_singleton.1 hx; exact n1
  · show (varsP (groupP 3 [q.pat, nodeV s])).Nodup
    rw [vars_seq, vars_node]
    split
    · rw [List.append_nil]; exact h.nodup
    · refine List.nodup_append.2 ⟨h.nodup, by simp, fun a ha b hb => ?_⟩
      obtain rfl := List.mem_singleton.1 hb
      exact fun e => hs (e ▸ ha)
  · show endsP (groupP 3 [q.pat, nodeV s]) = true
    rw [ends_seq, h.ends, n2]; rfl
  · show sizeN (groupP 3 [q.pat, nodeV s]) ≤ 400
    rw [sizeN_group (show (3 : Int) ≠ 5 by decide)]
    show 1 + (sizeN q.pat + (sizeN (nodeV s) + 0)) ≤ 400
    omega
  · intro hc
    refine h.long ⟨?_, hc.2⟩
    have e : lenP (groupP 3 [q.pat, nodeV s]) = lenP q.pat := by rw [len_pairs3, n5]; exact and_unit (ok_len q.pat)
    have := hc.1
    rwa [show (Qy.mk q.mode q.sel q.k (groupP 3 [q.pat, nodeV s])).pat = groupP 3 [q.pat, nodeV s] from rfl, e] at this
theorem no_empty : ∀ (p : Pt) (s : ByteArray), emptyS s = true → s ∉ varsP p := Pt.ind fun p ih s hs hm => by
  rw [varsP_eq, List.mem_append] at hm
  rcases hm with hm | hm
  · unfold ownV at hm
    split at hm
    · cases hm
    · rename_i h
      obtain rfl := List.mem_singleton.1 hm
      exact h hs
  · obtain ⟨k, hk, hm⟩ := List.mem_flatMap.1 hm
    exact ih k hk s hs hm
/-- all names behind one another, and a letter ahead -/
def longB (l : List ByteArray) : ByteArray := l.foldl (· ++ ·) ⟨#[110]⟩
theorem size_fold (l : List ByteArray) : ∀ a : ByteArray, (l.foldl (· ++ ·) a).size = a.size + (l.map ByteArray.size).sum := by
  induction l with
  | nil => intro a; simp
  | cons x l ih => intro a; rw [List.foldl_cons, ih, List.map_cons, List.sum_cons, ByteArray.size_append]; omega
theorem long_new {l : List ByteArray} : longB l ∉ l := fun h => by
  have h1 := size_fold l ⟨#[110]⟩
  have h2 := mem_sum ByteArray.size l _ h
  have h3 : (⟨#[110]⟩ : ByteArray).size = 1 := rfl
  unfold longB at h2
  omega
/-- one node more, of a name that is there -/
theorem twice_law {q : Qy} (h : OkQ q) (hd : depthP 50 q.pat ≤ 40) (s : ByteArray) (hs : s ∈ varsP q.pat) : checkQ ⟨q.mode, q.sel, q.k, groupP 3 [nodeV s, q.pat]⟩ = 3 := by
  obtain ⟨n1, n2, n3, n4, n5⟩ := node_facts s
  have hdp := depth_two (groupP 3 [nodeV s, q.pat]) (nodeV s) q.pat rfl
  have hr : rightP (groupP 3 [nodeV s, q.pat]) = true := right_group_mk (.inl rfl) (by simp) fun x hx => by
    rcases List.mem_cons.1 hx with rfl | hx
    · exact n1
    · obtain rfl := List.mem_singleton.1 hx; exact h.right
  have hne : emptyS s = false := by
    cases he : emptyS s with
    | false => rfl
    | true => exact absurd hs (no_empty q.pat s he)
  rw [check_eq, if_neg (by rw [show headQ ⟨q.mode, q.sel, q.k, groupP 3 [nodeV s, q.pat]⟩ = headQ q from rfl, h.head]; decide), if_neg (by show ¬ 50 < depthP 50 (groupP 3 [nodeV s, q.pat]); omega), if_neg (by show ¬ rightP (groupP 3 [nodeV s, q.pat]) = false; rw [hr]; decide)]
  unfold tailN
  simp only
  rw [if_neg]
  rw [vars_seq, vars_node, hne]
  intro hn
  rw [if_neg (by decide)] at hn
  exact (List.nodup_cons.1 hn).1 hs
end Go.Proofs.Ytgdgcloenhnbiaa
/- The walk of ScopeChecks: it returns true, if its names fit into a slice. -/
namespace Go.Proofs.Ytgdgcloenhnbiaa
open Go.RowKit
theorem splice_P {cs : List D} {o : Nat} (p : Pt) (ho : o ≠ 0) (hl : cs.length = o + 20) : splice cs o (encP p) = cs.take o ++ encP p := by
  have hlen := encP_len p
  have : splice cs o (encP p) = cs.take o ++ encP p ++ cs.drop (o + (encP p).length) := by
    rw [encP_eq]
    unfold splice
    split
    · rename_i h; injection h with _ h; cases h
    · rw [if_neg (fun h => ho h.1)]
  rw [this, hlen, ← hl, List.drop_length, List.append_nil]
section
variable {w0 : W0} {S0 : Nat → Nat → Prop} {nt : Nat} {fr : Fr} {σ : Obs} {o : Oper} {ops : Array Oper} {rest : List Oper} {Q : Fr → Obs → Prop} {d : Nat} {t : TypeId} {i : TyI} {ds : List D} {ps : Array (Nat × Operand)}
/-- a query is written out -/
theorem uBdQ (q : Qy) (h : RL (cx nt w0 S0) ops rest ((d, .dat (encQ q)) :: fr) σ Q) (ho : o.op = .build t ps := by rfl) (hw : wantA ops o fr = some true := by rfl) (hdst : o.dst = some d := by rfl) (hd : Nat.blt d nt = true := by rfl) (hi : Ty t = some i := by rfl) (ht : i.tag = 1 := by rfl)
    (hl : layF i.places fr ps.toList (i.zero.map zc) = some ds := by first | exact layF_nil _ _ _ | exact (layF_cons (by rfl) (by rfl) (by first | rfl | exact encE_len _ | exact encP_len _ | exact encQ_len _ | (simp only [encE_len]; done) | (simp only [encP_len])) (by first | decide | exact Nat.le_of_ble_eq_true rfl | (simp only [List.length_map]; decide)) (layF_nil _ _ _)) | exact (layF_cons (by rfl) (by rfl) (by first | rfl | exact encE_len _ | exact encP_len _ | exact encQ_len _ | (simp only [encE_len]; done) | (simp only [encP_len])) (by first | decide | exact Nat.le_of_ble_eq_true rfl | (simp only [List.length_map]; decide)) (layF_cons (by rfl) (by rfl) (by first | rfl | exact encE_len _ | exact encP_len _ | exact encQ_len _ | (simp only [encE_len]; done) | (simp only [encP_len])) (by first | decide | exact Nat.le_of_ble_eq_true rfl | (simp only [List.length_map]; decide)) (layF_nil _ _ _))) | exact (layF_cons (by rfl) (by rfl) (by first | rfl | exact encE_len _ | exact encP_len _ | exact encQ_len _ | (simp only [encE_len]; done) | (simp only [encP_len])) (by first | decide | exact Nat.le_of_ble_eq_true rfl | (simp only [List.length_map]; decide)) (layF_cons (by rfl) (by rfl) (by first | rfl | exact encE_len _ | exact encP_len _ | exact encQ_len _ | (simp only [encE_len]; done) | (simp only [encP_len])) (by first | decide | exact Nat.le_of_ble_eq_true rfl | (simp only [List.length_map]; decide)) (layF_cons (by rfl) (by rfl) (by first | rfl | exact encE_len _ | exact encP_len _ | exact encQ_len _ | (simp only [encE_len]; done) | (simp only [encP_len])) (by first | decide | exact Nat.le_of_ble_eq_true rfl | (simp only [List.length_map]; decide)) (layF_nil _ _ _)))) | exact (layF_cons (by rfl) (by rfl) (by first | rfl | exact encE_len _ | exact encP_len _ | exact encQ_len _ | (simp only [encE_len]; done) | (simp only [encP_len])) (by first | decide | exact Nat.le_of_ble_eq_true rfl | (simp only [List.length_map]; decide)) (layF_cons (by rfl) (by rfl) (by first | rfl | exact encE_len _ | exact encP_len _ | exact encQ_len _ | (simp only [encE_len]; done) | (simp only [encP_len])) (by first | decide | exact Nat.le_of_ble_eq_true rfl | (simp only [List.length_map]; decide)) (layF_cons (by rfl) (by rfl) (by first | rfl | exact encE_len _ | exact encP_len _ | exact encQ_len _ | (simp only [encE_len]; done) | (simp only [encP_len])) (by first | decide | exact Nat.le_of_ble_eq_true rfl | (simp only [List.length_map]; decide)) (layF_cons (by rfl) (by rfl) (by first | rfl | exact encE_len _ | exact encP_len _ | exact encQ_len _ | (simp only [encE_len]; done) | (simp only [encP_len])) (by first | decide | exact Nat.le_of_ble_eq_true rfl | (simp only [List.length_map]; decide)) (layF_nil _ _ _))))) | exact (layF_cons (by rfl) (by rfl) (by first | rfl | exact encE_len _ | exact encP_len _ | exact encQ_len _ | (simp only [encE_len]; done) | (simp only [encP_len])) (by first | decide | exact Nat.le_of_ble_eq_true rfl | (simp only [List.length_map]; decide)) (layF_cons (by rfl) (by rfl) (by first | rfl | exact encE_len _ | exact encP_len _ | exact encQ_len _ | (simp only [encE_len]; done) | (simp only [encP_len])) (by first | decide | exact Nat.le_of_ble_eq_true rfl | (simp only [List.length_map]; decide)) (layF_cons (by rfl) (by rfl) (by first | rfl | exact encE_len _ | exact encP_len _ | exact encQ_len _ | (simp only [encE_len]; done) | (simp only [encP_len])) (by first | decide | exact Nat.le_of_ble_eq_true rfl | (simp only [List.length_map]; decide)) (layF_cons (by rfl) (by rfl) (by first | rfl | exact encE_len _ | exact encP_len _ | exact encQ_len _ | (simp only [encE_len]; done) | (simp only [encP_len])) (by first | decide | exact Nat.le_of_ble_eq_true rfl | (simp only [List.length_map]; decide)) (layF_cons (by rfl) (by rfl) (by first | rfl | exact encE_len _ | exact encP_len _ | exact encQ_len _ | (simp only [encE_len]; done) | (simp only [encP_len])) (by first | decide | exact Nat.le_of_ble_eq_true rfl | (simp only [List.length_map]; decide)) (layF_nil _ _ _)))))) | exact (layF_cons (by rfl) (by rfl) (by first | rfl | exact encE_len _ | exact encP_len _ | exact encQ_len _ | (simp only [encE_len]; done) | (simp only [encP_len])) (by first | decide | exact Nat.le_of_ble_eq_true rfl | (simp only [List.length_map]; decide)) (layF_cons (by rfl) (by rfl) (by first | rfl | exact encE_len _ | exact encP_len _ | exact encQ_len _ | (simp only [encE_len]; done) | (simp only [encP_len])) (by first | decide | exact Nat.le_of_ble_eq_true rfl | (simp only [List.length_map]; decide)) (layF_cons (by rfl) (by rfl) (by first | rfl | exact encE_len _ | exact encP_len _ | exact encQ_len _ | (simp only [encE_len]; done) | (simp only [encP_len])) (by first | decide | exact Nat.le_of_ble_eq_true rfl | (simp only [List.length_map]; decide)) (layF_cons (by rfl) (by rfl) (by first | rfl | exact encE_len _ | exact encP_len _ | exact encQ_len _ | (simp only [encE_len]; done) | (simp only [encP_len])) (by first | decide | exact Nat.le_of_ble_eq_true rfl | (simp only [List.length_map]; decide)) (layF_cons (by rfl) (by rfl) (by first | rfl | exact encE_len _ | exact encP_len _ | exact encQ_len _ | (simp only [encE_len]; done) | (simp only [encP_len])) (by first | decide | exact Nat.le_of_ble_eq_true rfl | (simp only [List.length_map]; decide)) (layF_cons (by rfl) (by rfl) (by first | rfl | exact encE_len _ | exact encP_len _ | exact encQ_len _ | (simp only [encE_len]; done) | (simp only [encP_len])) (by first | decide | exact Nat.le_of_ble_eq_true rfl | (simp only [List.length_map]; decide)) (layF_nil _ _ _))))))) | exact (layF_cons (by rfl) (by rfl) (by first | rfl | exact encE_len _ | exact encP_len _ | exact encQ_len _ | (simp only [encE_len]; done) | (simp only [encP_len])) (by first | decide | exact Nat.le_of_ble_eq_true rfl | (simp only [List.length_map]; decide)) (layF_cons (by rfl) (by rfl) (by first | rfl | exact encE_len _ | exact encP_len _ | exact encQ_len _ | (simp only [encE_len]; done) | (simp only [encP_len])) (by first | decide | exact Nat.le_of_ble_eq_true rfl | (simp only [List.length_map]; decide)) (layF_cons (by rfl) (by rfl) (by first | rfl | exact encE_len _ | exact encP_len _ | exact encQ_len _ | (simp only [encE_len]; done) | (simp only [encP_len])) (by first | decide | exact Nat.le_of_ble_eq_true rfl | (simp only [List.length_map]; decide)) (layF_cons (by rfl) (by rfl) (by first | rfl | exact encE_len _ | exact encP_len _ | exact encQ_len _ | (simp only [encE_len]; done) | (simp only [encP_len])) (by first | decide | exact Nat.le_of_ble_eq_true rfl | (simp only [List.length_map]; decide)) (layF_cons (by rfl) (by rfl) (by first | rfl | exact encE_len _ | exact encP_len _ | exact encQ_len _ | (simp only [encE_len]; done) | (simp only [encP_len])) (by first | decide | exact Nat.le_of_ble_eq_true rfl | (simp only [List.length_map]; decide)) (layF_cons (by rfl) (by rfl) (by first | rfl | exact encE_len _ | exact encP_len _ | exact encQ_len _ | (simp only [encE_len]; done) | (simp only [encP_len])) (by first | decide | exact Nat.le_of_ble_eq_true rfl | (simp only [List.length_map]; decide)) (layF_cons (by rfl) (by rfl) (by first | rfl | exact encE_len _ | exact encP_len _ | exact encQ_len _ | (simp only [encE_len]; done) | (simp only [encP_len])) (by first | decide | exact Nat.le_of_ble_eq_true rfl | (simp only [List.length_map]; decide)) (layF_nil _ _ _))))))))) (hs : ds = encQ q := by refine (splice_P _ ?_ ?_).trans ?_ <;> first | decide | rfl) : RL (cx nt w0 S0) ops (o :: rest) fr σ Q :=
  uBd (cs := encQ q) h ho hw hdst hd hi ht hl hs
end
theorem tail_cases (p : Pt) (m m' s s' : Int) : (tailQ ⟨m, s, 0, p⟩ = 3 ∧ tailQ ⟨m', s', 0, p⟩ = 3 ∧ tailQ ⟨1, 0, 0, p⟩ = 3 ∧ tailQ ⟨0, 3, 3, p⟩ = 3) ∨ (tailQ ⟨m, s, 0, p⟩ = 5 ∧ tailQ ⟨m', s', 0, p⟩ = 5 ∧ tailQ ⟨1, 0, 0, p⟩ = 5 ∧ tailQ ⟨0, 3, 3, p⟩ = 5) ∨
    (tailQ ⟨m, s, 0, p⟩ = 6 ∧ tailQ ⟨m', s', 0, p⟩ = 6 ∧ tailQ ⟨1, 0, 0, p⟩ = 6 ∧ tailQ ⟨0, 3, 3, p⟩ = 6) ∨ ((tailQ ⟨m, s, 0, p⟩ = 0 ∨ tailQ ⟨m, s, 0, p⟩ = 5) ∧ (tailQ ⟨m', s', 0, p⟩ = 0 ∨ tailQ ⟨m', s', 0, p⟩ = 5) ∧ tailQ ⟨1, 0, 0, p⟩ = 0 ∧ tailQ ⟨0, 3, 3, p⟩ = 0) := by
  unfold tailQ
  simp only
  by_cases h1 : compN (namesQ p) < (namesQ p).length
  · simp [h1]
  by_cases h2 : endsP p = false
  · simp [h1, h2]
  by_cases h3 : 400 < sizeN p
  · simp [h1, h2, h3]
  rw [if_neg h1, if_neg h1, if_neg h1, if_neg h1, if_neg h2, if_neg h2, if_neg h2, if_neg h2, if_neg h3, if_neg h3, if_neg h3, if_neg h3]
  refine .inr (.inr (.inr ⟨?_, ?_, ?_, ?_⟩))
  · split
    · exact .inr rfl
    · exact .inl rfl
  · split
    · exact .inr rfl
    · exact .inl rfl
  · rw [if_neg (fun h => by have := h.2.1; omega)]
  · rw [if_neg (fun h => by have := h.2.2; omega)]
theorem check_tail {q : Qy} (hr : patRight q.pat = true) (hh : headQ q = true) : checkQ q = tailQ q := by
  unfold patRight at hr
  rw [Bool.and_eq_true, decide_eq_true_eq] at hr
  unfold checkQ
  rw [if_neg (by rw [hh]; decide), if_neg (by omega), if_neg (by rw [hr.2]; decide)]
theorem and_le (n : Int) (c : Nat) (hc : c ≤ 1000) : 0 ≤ (IntKind.i64.wrap ((BitVec.ofInt IntKind.i64.bits n &&& BitVec.ofInt IntKind.i64.bits c).toNat : Nat)) ∧ (IntKind.i64.wrap ((BitVec.ofInt IntKind.i64.bits n &&& BitVec.ofInt IntKind.i64.bits c).toNat : Nat)) ≤ c := by
  have hb : (BitVec.ofInt IntKind.i64.bits n &&& BitVec.ofInt IntKind.i64.bits c).toNat ≤ c := by
    rw [BitVec.toNat_and]
    have : (BitVec.ofInt IntKind.i64.bits c).toNat = c := by
      rw [BitVec.ofInt_natCast, BitVec.toNat_ofNat]
      exact Nat.mod_eq_of_lt (Nat.lt_of_le_of_lt hc (by decide))
    rw [this]
    exact Nat.and_le_right
  generalize (BitVec.ofInt IntKind.i64.bits n &&& BitVec.ofInt IntKind.i64.bits c).toNat = z at hb
  rw [IntWalk.i64_in (z : Int) (by omega)]
  exact ⟨by omega, by omega⟩
theorem head_ok {m s : Int} {p : Pt} (hm : 0 ≤ m ∧ m ≤ (3 : Nat)) (hs : 0 ≤ s ∧ s ≤ (1 : Nat)) : headQ ⟨m, s, 0, p⟩ = true := by
  unfold headQ
  have h1 : ¬ s = 3 := by omega
  simp only [if_neg h1, Bool.and_eq_true, decide_eq_true_eq]
  exact ⟨⟨trivial, by omega, by omega⟩, by omega, by omega⟩
theorem check_at (q : Qy) (hvb : (varsP q.pat).length ≤ 1000000) {r : Int} (h : checkQ q = r) : CallsV Try.prog 30 [.dat (encQ q)] (.val (vI r)) := h ▸ check_v q hvb
set_option maxRecDepth 100000 in
set_option maxHeartbeats 16000000 in
theorem checks_w (p : Pt) (a b : Int) (hvb : (varsP p).length ≤ 1000000) : CallsV Try.prog 13 [.dat (encP p), vI a, vI b] (.val (vB true)) := by
  have hS := shown13_v
  have hL := large_v p
  have hR := patRight_v p
  have m0 : 0 ≤ (IntKind.i64.wrap ((BitVec.ofInt IntKind.i64.bits a &&& BitVec.ofInt IntKind.i64.bits 3).toNat : Nat)) ∧ (IntKind.i64.wrap ((BitVec.ofInt IntKind.i64.bits a &&& BitVec.ofInt IntKind.i64.bits 3).toNat : Nat)) ≤ 3 := and_le a 3 (by decide)
  have s0 : 0 ≤ (IntKind.i64.wrap ((BitVec.ofInt IntKind.i64.bits (Int.fdiv a (2 ^ min (Int.toNat 2) IntKind.i64.bits)) &&& BitVec.ofInt IntKind.i64.bits 1).toNat : Nat)) ∧ (IntKind.i64.wrap ((BitVec.ofInt IntKind.i64.bits (Int.fdiv a (2 ^ min (Int.toNat 2) IntKind.i64.bits)) &&& BitVec.ofInt IntKind.i64.bits 1).toNat : Nat)) ≤ 1 := and_le (Int.fdiv a (2 ^ min (Int.toNat 2) IntKind.i64.bits)) 1 (by decide)
  have m1 : 0 ≤ (IntKind.i64.wrap ((BitVec.ofInt IntKind.i64.bits b &&& BitVec.ofInt IntKind.i64.bits 3).toNat : Nat)) ∧ (IntKind.i64.wrap ((BitVec.ofInt IntKind.i64.bits b &&& BitVec.ofInt IntKind.i64.bits 3).toNat : Nat)) ≤ 3 := and_le b 3 (by decide)
  have s1 : 0 ≤ (IntKind.i64.wrap ((BitVec.ofInt IntKind.i64.bits (Int.fdiv b (2 ^ min (Int.toNat 2) IntKind.i64.bits)) &&& BitVec.ofInt IntKind.i64.bits 1).toNat : Nat)) ∧ (IntKind.i64.wrap ((BitVec.ofInt IntKind.i64.bits (Int.fdiv b (2 ^ min (Int.toNat 2) IntKind.i64.bits)) &&& BitVec.ofInt IntKind.i64.bits 1).toNat : Nat)) ≤ 1 := and_le (Int.fdiv b (2 ^ min (Int.toNat 2) IntKind.i64.bits)) 1 (by decide)
  (refine callsV_of_W (Ty := Ty) ty_ok Try.func13 rfl rfl rfl fun w0 S0 => ?_; simp only [argsF, List.zipIdx_cons, List.zipIdx_nil, List.map_cons, List.map_nil, Nat.zero_add])
  cases hr : patRight p with
  | false =>
    rw [hr] at hR
    repeat' (first | refine W_seq ?_ | refine W_region ?_ | (refine RL_nil ?_; (first | change W _ _ _ _ _ | change EndQ _ _ _ _ _ _ | change Exists _ | change EndG _ _ _ _ _ _ _ _ _ _ | change EndM _ _ _ _ _ _ _ | skip)) | (refine isRL ?_; first | refine uMv ?_ | refine uAs ?_ | refine uO ?_ | (refine isBin ?_; first | refine uIb ?_ | refine uCat ?_ | refine uBb true ?_ | refine uBb false ?_ | refine uP ?_ | refine uEq true ?_ | refine uEq false ?_) | (refine isLd ?_; first | refine uLp ?_ | refine uLb ?_ | refine uL1 ?_ | refine uL2 ?_ | refine uP ?_) | (refine isCl ?_; first | refine uC (hS) ?_ | refine uC (hL) ?_ | refine uC (hR) ?_ | refine uP ?_) | (refine isBd ?_; first | refine uBd ?_ | refine uP ?_) | refine uBu true ?_ | refine uBu false ?_ | refine uP ?_ | refine uBx ?_ | refine uN ?_ | refine uGsD (fun hb => ?_) (fun hb => ?_) | refine uGsE (fun hb => ?_) (fun hb => ?_) | refine uGsN (fun hb => ?_) (fun hb => ?_) | refine uGsND (fun hb => ?_) (fun hb => ?_) | refine uGsNE (fun hb => ?_) (fun hb => ?_) | refine uGsNB (fun hb => ?_) (fun hb => ?_) | refine uGs (fun hb => ?_) (fun hb => ?_)) | refine W_cond true (by rfl) (fun _ => ?_) (fun h => by cases h) | refine W_cond false (by rfl) (fun h => by cases h) (fun _ => ?_) | (refine W_skip ?_; (first | change W _ _ _ _ _ | change EndQ _ _ _ _ _ _ | change Exists _ | change EndG _ _ _ _ _ _ _ _ _ _ | change EndM _ _ _ _ _ _ _ | skip)) | (refine W_ret ?_; (first | change W _ _ _ _ _ | change EndQ _ _ _ _ _ _ | change Exists _ | change EndG _ _ _ _ _ _ _ _ _ _ | change EndM _ _ _ _ _ _ _ | skip)) | refine wCsD (fun hb => ?_) (fun hb => ?_) | refine wCsE (fun hb => ?_) (fun hb => ?_) | refine wCsN (fun hb => ?_) (fun hb => ?_) | refine wCsND (fun hb => ?_) (fun hb => ?_) | refine wCsNE (fun hb => ?_) (fun hb => ?_) | refine wCsNB (fun hb => ?_) (fun hb => ?_) | refine wCs (fun hb => ?_) (fun hb => ?_))
    all_goals exact end_r (by rfl) rfl
  | true =>
    rw [hr] at hR
    obtain ⟨x, ex⟩ : ∃ x, tailQ ⟨(IntKind.i64.wrap ((BitVec.ofInt IntKind.i64.bits a &&& BitVec.ofInt IntKind.i64.bits 3).toNat : Nat)), (IntKind.i64.wrap ((BitVec.ofInt IntKind.i64.bits (Int.fdiv a (2 ^ min (Int.toNat 2) IntKind.i64.bits)) &&& BitVec.ofInt IntKind.i64.bits 1).toNat : Nat)), 0, p⟩ = x := ⟨_, rfl⟩
    obtain ⟨y, ey⟩ : ∃ y, tailQ ⟨(IntKind.i64.wrap ((BitVec.ofInt IntKind.i64.bits b &&& BitVec.ofInt IntKind.i64.bits 3).toNat : Nat)), (IntKind.i64.wrap ((BitVec.ofInt IntKind.i64.bits (Int.fdiv b (2 ^ min (Int.toNat 2) IntKind.i64.bits)) &&& BitVec.ofInt IntKind.i64.bits 1).toNat : Nat)), 0, p⟩ = y := ⟨_, rfl⟩
    obtain ⟨z, ez⟩ : ∃ z, tailQ ⟨1, 0, 0, p⟩ = z := ⟨_, rfl⟩
    obtain ⟨u, eu⟩ : ∃ u, tailQ ⟨0, 3, 3, p⟩ = u := ⟨_, rfl⟩
    have hc := tail_cases p (IntKind.i64.wrap ((BitVec.ofInt IntKind.i64.bits a &&& BitVec.ofInt IntKind.i64.bits 3).toNat : Nat)) (IntKind.i64.wrap ((BitVec.ofInt IntKind.i64.bits b &&& BitVec.ofInt IntKind.i64.bits 3).toNat : Nat)) (IntKind.i64.wrap ((BitVec.ofInt IntKind.i64.bits (Int.fdiv a (2 ^ min (Int.toNat 2) IntKind.i64.bits)) &&& BitVec.ofInt IntKind.i64.bits 1).toNat : Nat)) (IntKind.i64.wrap ((BitVec.ofInt IntKind.i64.bits (Int.fdiv b (2 ^ min (Int.toNat 2) IntKind.i64.bits)) &&& BitVec.ofInt IntKind.i64.bits 1).toNat : Nat))
    rw [ex, ey, ez, eu] at hc
    have hx := check_at ⟨(IntKind.i64.wrap ((BitVec.ofInt IntKind.i64.bits a &&& BitVec.ofInt IntKind.i64.bits 3).toNat : Nat)), (IntKind.i64.wrap ((BitVec.ofInt IntKind.i64.bits (Int.fdiv a (2 ^ min (Int.toNat 2) IntKind.i64.bits)) &&& BitVec.ofInt IntKind.i64.bits 1).toNat : Nat)), 0, p⟩ hvb ((check_tail hr (head_ok m0 s0)).trans ex)
    have hy := check_at ⟨(IntKind.i64.wrap ((BitVec.ofInt IntKind.i64.bits b &&& BitVec.ofInt IntKind.i64.bits 3).toNat : Nat)), (IntKind.i64.wrap ((BitVec.ofInt IntKind.i64.bits (Int.fdiv b (2 ^ min (Int.toNat 2) IntKind.i64.bits)) &&& BitVec.ofInt IntKind.i64.bits 1).toNat : Nat)), 0, p⟩ hvb ((check_tail hr (head_ok m1 s1)).trans ey)
    have hz := check_at ⟨1, 0, 0, p⟩ hvb ((check_tail hr (by rfl)).trans ez)
    have hu := check_at ⟨0, 3, 3, p⟩ hvb ((check_tail hr (by rfl)).trans eu)
    rcases hc with ⟨rfl, rfl, rfl, rfl⟩ | ⟨rfl, rfl, rfl, rfl⟩ | ⟨rfl, rfl, rfl, rfl⟩ | ⟨rfl | rfl, rfl | rfl, rfl, rfl⟩
    all_goals
      repeat' (first | refine W_seq ?_ | refine W_region ?_ | (refine RL_nil ?_; (first | change W _ _ _ _ _ | change EndQ _ _ _ _ _ _ | change Exists _ | change EndG _ _ _ _ _ _ _ _ _ _ | change EndM _ _ _ _ _ _ _ | skip)) | (refine isRL ?_; first | refine uBdQ ⟨(IntKind.i64.wrap ((BitVec.ofInt IntKind.i64.bits a &&& BitVec.ofInt IntKind.i64.bits 3).toNat : Nat)), (IntKind.i64.wrap ((BitVec.ofInt IntKind.i64.bits (Int.fdiv a (2 ^ min (Int.toNat 2) IntKind.i64.bits)) &&& BitVec.ofInt IntKind.i64.bits 1).toNat : Nat)), 0, p⟩ ?_ | refine uBdQ ⟨(IntKind.i64.wrap ((BitVec.ofInt IntKind.i64.bits b &&& BitVec.ofInt IntKind.i64.bits 3).toNat : Nat)), (IntKind.i64.wrap ((BitVec.ofInt IntKind.i64.bits (Int.fdiv b (2 ^ min (Int.toNat 2) IntKind.i64.bits)) &&& BitVec.ofInt IntKind.i64.bits 1).toNat : Nat)), 0, p⟩ ?_ | refine uBdQ ⟨1, 0, 0, p⟩ ?_ | refine uBdQ ⟨0, 3, 3, p⟩ ?_ | refine uMv ?_ | refine uAs ?_ | refine uO ?_ | (refine isBin ?_; first | refine uIb ?_ | refine uCat ?_ | refine uBb true ?_ | refine uBb false ?_ | refine uP ?_ | refine uEq true ?_ | refine uEq false ?_) | (refine isLd ?_; first | refine uLp ?_ | refine uLb ?_ | refine uL1 ?_ | refine uL2 ?_ | refine uP ?_) | (refine isCl ?_; first | refine uC (hS) ?_ | refine uC (hL) ?_ | refine uC (hR) ?_ | refine uC (hx) ?_ | refine uC (hy) ?_ | refine uC (hz) ?_ | refine uC (hu) ?_ | refine uP ?_) | (refine isBd ?_; first | refine uBd ?_ | refine uP ?_) | refine uBu true ?_ | refine uBu false ?_ | refine uP ?_ | refine uBx ?_ | refine uN ?_ | refine uGsD (fun hb => ?_) (fun hb => ?_) | refine uGsE (fun hb => ?_) (fun hb => ?_) | refine uGsN (fun hb => ?_) (fun hb => ?_) | refine uGsND (fun hb => ?_) (fun hb => ?_) | refine uGsNE (fun hb => ?_) (fun hb => ?_) | refine uGsNB (fun hb => ?_) (fun hb => ?_) | refine uGs (fun hb => ?_) (fun hb => ?_)) | refine W_cond true (by rfl) (fun _ => ?_) (fun h => by cases h) | refine W_cond false (by rfl) (fun h => by cases h) (fun _ => ?_) | (refine W_skip ?_; (first | change W _ _ _ _ _ | change EndQ _ _ _ _ _ _ | change Exists _ | change EndG _ _ _ _ _ _ _ _ _ _ | change EndM _ _ _ _ _ _ _ | skip)) | (refine W_ret ?_; (first | change W _ _ _ _ _ | change EndQ _ _ _ _ _ _ | change Exists _ | change EndG _ _ _ _ _ _ _ _ _ _ | change EndM _ _ _ _ _ _ _ | skip)) | refine wCsD (fun hb => ?_) (fun hb => ?_) | refine wCsE (fun hb => ?_) (fun hb => ?_) | refine wCsN (fun hb => ?_) (fun hb => ?_) | refine wCsND (fun hb => ?_) (fun hb => ?_) | refine wCsNE (fun hb => ?_) (fun hb => ?_) | refine wCsNB (fun hb => ?_) (fun hb => ?_) | refine wCs (fun hb => ?_) (fun hb => ?_))
      all_goals exact end_r (by rfl) rfl
theorem scopeChecks_v (p : Pt) (hb : bulkR (encP p) ≤ 1048576) (a b : Int) : CallsV Try.prog 13 [.dat (encP p), vI a, vI b] (.val (vB true)) := checks_w p a b (by have := (few_vars hb).1; omega)
end Go.Proofs.Ytgdgcloenhnbiaa
