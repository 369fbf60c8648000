/- Plain laws: names sorted; when one stands twice. -/
import Derived.Test.YtgdgcloenhnbiaaWM
import Derived.Test.YtgdgcloenhnbiaaN0
import Derived.Test.YtgdgcloenhnbiaaGA
import Derived.Test.YtgdgcloenhnbiaaVO
namespace Go.Proofs.Ytgdgcloenhnbiaa
open Go.RowKit Go.Sort
theorem bytesL_inj {s t : ByteArray} (h : bytesL s = bytesL t) : s = t := by
  obtain ⟨⟨a⟩⟩ := s
  obtain ⟨⟨b⟩⟩ := t
  simp only [bytesL] at h
  rw [h]
theorem nodup_bytes {l : List ByteArray} : (l.map bytesL).Nodup ↔ l.Nodup := by
  constructor
  · intro h
    induction l with
    | nil => exact List.nodup_nil
    | cons x l ih =>
      rw [List.map_cons, List.nodup_cons] at h
      exact List.nodup_cons.2 ⟨fun hx => h.1 (List.mem_map_of_mem hx), ih h.2⟩
  · intro h
    induction l with
    | nil => exact List.nodup_nil
    | cons x l ih =>
      rw [List.nodup_cons] at h
      rw [List.map_cons, List.nodup_cons]
      refine ⟨fun hx => ?_, ih h.2⟩
      obtain ⟨y, hy, e⟩ := List.mem_map.1 hx
      exact h.1 (bytesL_inj e ▸ hy)
theorem le_tr : ∀ a b c : List UInt8, decide (a ≤ b) = true → decide (b ≤ c) = true → decide (a ≤ c) = true := fun a b c h1 h2 => by
  simp only [decide_eq_true_eq] at *; exact List.le_trans h1 h2
theorem le_to : ∀ a b : List UInt8, (decide (a ≤ b) || decide (b ≤ a)) = true := fun a b => by
  simp only [Bool.or_eq_true, decide_eq_true_eq]; exact List.le_total a b
theorem bytes_sortB (l : List ByteArray) : (sortB l).map bytesL = (l.map bytesL).mergeSort fun x y => decide (x ≤ y) := by
  unfold sortB
  rw [List.map_map]
  have : bytesL ∘ (fun b : List UInt8 => (⟨b.toArray⟩ : ByteArray)) = id := rfl
  rw [this, List.map_id]
theorem perm_sortB (l : List ByteArray) : (sortB l).Perm l := by
  have h := List.mergeSort_perm (l.map bytesL) fun x y => decide (x ≤ y)
  have h2 := h.map fun b : List UInt8 => (⟨b.toArray⟩ : ByteArray)
  rw [List.map_map] at h2
  have : (fun b : List UInt8 => (⟨b.toArray⟩ : ByteArray)) ∘ bytesL = id := rfl
  rw [this, List.map_id] at h2
  exact h2
theorem sorted_sortB (l : List ByteArray) : ((sortB l).map bytesL).Pairwise (· ≤ ·) := by
  rw [bytes_sortB]
  exact (List.pairwise_mergeSort le_tr le_to _).imp fun h => of_decide_eq_true h
theorem keeps_all {zs : List (List UInt8)} (h : zs.Nodup) : ∀ j ∈ List.range zs.length, Go.Lib.keeps zs.toArray j = true := by
  intro j hj
  rw [List.mem_range] at hj
  simp only [Go.Lib.keeps, decide_eq_true_eq]
  by_cases h0 : j = 0
  · exact .inl h0
  · refine .inr fun e => ?_
    have h1 : zs.toArray[j]! = zs[j] := by simp [hj]
    have h2 : zs.toArray[j - 1]! = zs[j - 1]'(by omega) := by rw [getElem!_pos zs.toArray (j - 1) (by simp; omega)]; simp
    rw [h1, h2] at e
    exact List.pairwise_iff_getElem.1 h (j - 1) j (by omega) hj (by omega) e.symm
theorem compact_len {zs : List (List UInt8)} (hs : zs.Pairwise (· ≤ ·)) : (Go.Lib.compact zs).length < zs.length ↔ ¬ zs.Nodup := by
  have hlen : (Go.Lib.compact zs).length = ((List.range zs.length).filter (Go.Lib.keeps zs.toArray)).length := by
    unfold Go.Lib.compact Go.Lib.compactUpTo; rw [List.length_map]
  have hle := List.length_filter_le (Go.Lib.keeps zs.toArray) (List.range zs.length)
  rw [List.length_range] at hle
  constructor
  · intro h hn
    have h1 := (List.length_filter_eq_length_iff (p := Go.Lib.keeps zs.toArray) (l := List.range zs.length)).2 (keeps_all hn)
    rw [List.length_range] at h1; omega
  · intro hn
    rw [hlen]
    refine Nat.lt_of_le_of_ne hle fun e => hn ?_
    have h1 := (List.length_filter_eq_length_iff (p := Go.Lib.keeps zs.toArray) (l := List.range zs.length)).1 (by rw [List.length_range]; exact e)
    -- neighbours differ, so all do
    have hadj : ∀ (j : Nat) (hj : j + 1 < zs.length), zs[j + 1] ≠ zs[j] := fun j hj e2 => by
      have h2 := h1 (j + 1) (List.mem_range.2 hj)
      simp only [Go.Lib.keeps, decide_eq_true_eq] at h2
      rcases h2 with h2 | h2
      · omega
      · apply h2
        rw [getElem!_pos zs.toArray (j + 1) (by simpa using hj), getElem!_pos zs.toArray (j + 1 - 1) (by simp; omega)]
        simpa using e2
    have hmono : ∀ (i j : Nat) (hi : i < j) (hj : j < zs.length), zs[i] ≤ zs[j] := fun i j hi hj => List.pairwise_iff_getElem.1 hs i j (by omega) hj hi
    have key : ∀ (i j : Nat) (hi : i < zs.length) (hj : j < zs.length), i < j → zs[i] ≠ zs[j] := fun i j hi hj hij e4 => by
      have h3 : zs[j - 1]'(by omega) ≤ zs[j] := hmono (j - 1) j (by omega) hj
      have h4 : zs[i] ≤ zs[j - 1]'(by omega) := by
        by_cases e5 : i = j - 1
        · subst e5; exact List.le_refl _
        · exact hmono i (j - 1) (by omega) (by omega)
      rw [e4] at h4
      have h5 := List.le_antisymm h3 h4
      have := hadj (j - 1) (by omega)
      apply this
      rw [h5]
      congr 1
      omega
    exact List.pairwise_iff_getElem.2 fun i j hi hj hij => key i j hi hj hij
theorem compN_sort (l : List ByteArray) : compN (sortB l) < (sortB l).length ↔ ¬ l.Nodup := by
  have h := compact_len (sorted_sortB l)
  rw [List.length_map] at h
  unfold compN
  rw [h, nodup_bytes, (perm_sortB l).nodup_iff]
end Go.Proofs.Ytgdgcloenhnbiaa
/- Walks: what the laws of scope show in any case. -/
namespace Go.Proofs.Ytgdgcloenhnbiaa
open Go.RowKit
section
variable {w0 : W0} {nt : Nat} {fr : Fr} {σ σ2 : Obs} {ops : Array Oper} {rest : List Oper} {Q : Fr → Obs → Prop}
theorem uKw {o2 o3 o4 : Oper} {d2 d3 k1 k2 f fo s sz : Nat} {ty e t2 t3 t4 : TypeId} {xx : Operand} {i2 e2 i3 i4 : TyI} {cs : List C} {rows : List (List D)} {q : List D} {x0 x1 : ByteArray} {fr2 : Fr}
    (hn : ∀ c ∈ cs, noxC k2 rows (.string x0) c) (hnr : ∀ (i : Nat) (r : List D), rows[i]? = some r → ∀ (j : Nat) (x : D), r[j]? = some x → ¬ (i = 0 ∧ j = fo) → x ≠ .v (.string x0) ∧ NoX (.string x0) x)
    (h : RL (cx nt w0 (fun _ _ => False)) ops rest fr2 σ2 Q)
    (ho2 : o2.op = .indexAddr t2 xx (.const (.int .i64 0)) := by rfl) (hx : ev fr xx = some (.one (.own k2 rows)) := by rfl) (hk1 : look σ k1 = some (.obj ty cs) := by rfl) (hk2 : look σ k2 = some (.tok e sz) := by rfl)
    (hw2 : wantA ops o2 fr = some true := by rfl) (hd2 : o2.dst = some d2 := by rfl) (hb2 : Nat.blt d2 nt = true := by rfl) (hi2 : Ty t2 = some i2 := by rfl) (ht2 : i2.tag = 2 := by rfl) (he2 : Ty i2.elem = some e2 := by rfl) (hq : rows[0]? = some q := by rfl) (hql : q.length = e2.size := by rfl)
    (hw3 : wantA ops o3 ((d2, .junk) :: fr) = some true := by rfl) (hd3 : o3.dst = some d3 := by rfl) (hb3 : Nat.blt d3 nt = true := by rfl) (ho3 : o3.op = .fieldAddr t3 (.tmp d2) f := by rfl) (hi3 : Ty t3 = some i3 := by rfl) (ht3 : i3.tag = 1 := by rfl) (hpl : i3.places[f]? = some (fo, s) := by rfl) (hs : s ≠ 0 := by decide)
    (hw4 : wantA ops o4 ((d3, .junk) :: (d2, .junk) :: fr) = some true := by rfl) (hd4 : o4.dst = none := by rfl) (ho4 : o4.op = .store t4 (.tmp d3) (.const (.string x1)) := by rfl) (hi4 : Ty t4 = some i4 := by rfl) (hz4 : i4.size = 1 := by rfl)
    (hold : q[fo]? = some (.v (.string x0)) := by rfl) (hf : keepF ((d3, .junk) :: (d2, .junk) :: fr) = fr2 := by rfl) (hσ : [(k1, .obj ty (cs.map (newC (rows.set 0 (q.set fo (.v (.string x1))))))), (k2, .tok e sz)] = σ2 := by rfl) : RL (cx nt w0 (fun _ _ => False)) ops (o2 :: o3 :: o4 :: rest) fr σ Q :=
  RL_kw (X := cx nt w0 (fun _ _ => False)) ty_ok (fun _ _ h => h) hx hk1 hk2 hw2 hd2 hb2 ho2 hi2 ht2 he2 hq hql hw3 hd3 hb3 ho3 hi3 ht3 hpl hs hw4 hd4 ho4 hi4 hz4 hold hn hnr (by rw [hf, hσ]; exact h)
end
/-- a pattern with parts that are one's own -/
def ownP (k : Nat) (rows : List (List D)) : List C := [.d (.v (.int .i64 3)), .d (.v (.string ⟨#[]⟩)), .d (.v (.int .i64 0)), .d (.v (.int .i64 0)), .d (.v (.string ⟨#[]⟩)), .d (.v (.int .i64 0)), .d (.v (.int .i64 0)), .d (.v (.float .f64 0)), .d (.v (.string ⟨#[]⟩)), .d (.sl []), .d (.v (.int .i64 0)), .d (.v (.string ⟨#[]⟩)), .d (.v (.int .i64 0)), .d (.v (.int .i64 0)), .d (.v (.float .f64 0)), .d (.v (.string ⟨#[]⟩)), .d (.sl []), .d (.v (.int .i64 0)), .d (.v (.int .i64 0)), .own k rows]
set_option maxRecDepth 100000 in
theorem seq13_m (l : List Pt) (hb : l.length ≤ 1000) : CallsM Try.prog 32 [vL (l.map encP)] [] (.ag (ownP 1001 (l.map encP))) [(1001, .tok 30 20)] := by
  have hz : sized 20 (l.map encP) = true := sized_P l
  (refine callsM_of_W (Ty := Ty) ty_ok Try.func32 rfl rfl rfl (by rfl) fun w0 S0 hp => ?_; simp only [argsF, List.zipIdx_cons, List.zipIdx_nil, List.map_cons, List.map_nil, Nat.zero_add])
  iterate 9 (first | refine W_seq ?_ | refine W_region ?_ | (refine RL_nil ?_; (first | change W _ _ _ _ _ | change EndQ _ _ _ _ _ _ | change Exists _ | change EndG _ _ _ _ _ _ _ _ _ _ | change EndM _ _ _ _ _ _ _ | skip)) | (refine isRL ?_; first | refine uMv ?_ | (refine isCl ?_; first | refine uP ?_ | refine uAk ?_ | refine uA ?_ | refine uA0 ?_ | refine uWl ?_) | (refine isBd ?_; first | refine uBd ?_ | refine uP ?_) | (refine isSt ?_; first | refine uSw ?_ | refine uS ?_ | refine uSc ?_) | refine uBs ?_ | refine uP ?_ | refine uN ?_) | (refine W_skip ?_; (first | change W _ _ _ _ _ | change EndQ _ _ _ _ _ _ | change Exists _ | change EndG _ _ _ _ _ _ _ _ _ _ | change EndM _ _ _ _ _ _ _ | skip)) | (refine W_ret ?_; (first | change W _ _ _ _ _ | change EndQ _ _ _ _ _ _ | change Exists _ | change EndG _ _ _ _ _ _ _ _ _ _ | change EndM _ _ _ _ _ _ _ | skip)))
  refine uBdC ?_
  refine uBO 2 (pin_low (by decide)) ?_
  refine uSo ?_
  refine uRn 3 1001 (pin_none (hp 1001 rfl)) ?_
  repeat (first | refine W_seq ?_ | refine W_region ?_ | (refine RL_nil ?_; (first | change W _ _ _ _ _ | change EndQ _ _ _ _ _ _ | change Exists _ | change EndG _ _ _ _ _ _ _ _ _ _ | change EndM _ _ _ _ _ _ _ | skip)) | (refine isRL ?_; first | refine uMv ?_ | refine uAs ?_ | refine uO ?_ | (refine isBin ?_; first | refine uIb ?_ | refine uBb true ?_ | refine uBb false ?_ | refine uCat ?_ | refine uP ?_ | refine uEq true ?_ | refine uEq false ?_) | (refine isLd ?_; first | refine uLp ?_ | refine uLb ?_ | refine uL1 ?_ | refine uL2 ?_ | refine uP ?_) | (refine isCl ?_; first | refine uP ?_ | refine uAk ?_ | refine uA ?_ | refine uA0 ?_ | refine uWl ?_) | (refine isFa ?_; first | refine uP ?_) | (refine isBd ?_; first | refine uBd ?_ | refine uP ?_) | (refine isSl ?_; first | refine uHm ?_ | refine uHd ?_ | refine uP ?_ | refine uH ?_) | (refine isSt ?_; first | refine uSw ?_ | refine uS ?_ | refine uSc ?_) | refine uX ?_ | refine uBu true ?_ | refine uBu false ?_ | refine uBs ?_ | refine uSx ?_ | refine uP ?_ | refine uBx ?_ | refine uN ?_ | refine uON ?_) | refine W_block ?_ | refine W_cond true (by rfl) (fun _ => ?_) (fun h => by cases h) | refine W_cond false (by rfl) (fun h => by cases h) (fun _ => ?_) | (refine W_skip ?_; (first | change W _ _ _ _ _ | change EndQ _ _ _ _ _ _ | change Exists _ | change EndG _ _ _ _ _ _ _ _ _ _ | change EndM _ _ _ _ _ _ _ | skip)) | (refine W_exit ?_; (first | change W _ _ _ _ _ | change EndQ _ _ _ _ _ _ | change Exists _ | change EndG _ _ _ _ _ _ _ _ _ _ | change EndM _ _ _ _ _ _ _ | skip)) | (refine W_ret ?_; (first | change W _ _ _ _ _ | change EndQ _ _ _ _ _ _ | change Exists _ | change EndG _ _ _ _ _ _ _ _ _ _ | change EndM _ _ _ _ _ _ _ | skip)) | (refine mN ?_; (first | change W _ _ _ _ _ | change EndQ _ _ _ _ _ _ | change Exists _ | change EndG _ _ _ _ _ _ _ _ _ _ | change EndM _ _ _ _ _ _ _ | skip)) | (refine isD ?_; first | refine mMv ?_ | refine mAs ?_ | refine mO ?_ | (refine imBin ?_; first | refine mIb ?_ | refine mBb true ?_ | refine mBb false ?_ | refine mCat ?_ | refine mP ?_ | refine mEq true ?_ | refine mEq false ?_) | (refine imLd ?_; first | refine mLp ?_ | refine mLb ?_ | refine mL1 ?_ | refine mL2 ?_ | refine mP ?_) | (refine imCl ?_; first | refine mP ?_ | refine mA ?_ | refine mA0 ?_) | (refine imFa ?_; first | refine mP ?_) | (refine imBd ?_; first | refine mBd ?_ | refine mP ?_) | (refine imSl ?_; first | refine mHm ?_ | refine mHd ?_ | refine mP ?_ | refine mH ?_) | refine mX ?_ | refine mBu true ?_ | refine mBu false ?_ | refine mBs ?_ | refine mSx ?_ | refine mP ?_ | refine mAl ?_))
  exact end_m (by rfl) rfl (by (repeat (first | exact gHas_nil _ | refine gHas_cons (by rfl) ?_)))
/-- what holds no text s -/
def okx (s : Value) (x : D) : Prop := x ≠ .v s ∧ NoX s x
theorem okx_v {s t : Value} (h : t ≠ s) : okx s (.v t) := ⟨fun e => h (by injection e), .v _⟩
theorem okx_sl {s : Value} {rows : List (List D)} (h : ∀ r ∈ rows, ∀ x ∈ r, okx s x) : okx s (.sl rows) :=
  ⟨(fun e => by cases e), .sl _ (fun _ q hq _ d hd => (h q (List.mem_of_getElem? hq) d (List.mem_of_getElem? hd)).1) (fun _ q hq _ d hd => (h q (List.mem_of_getElem? hq) d (List.mem_of_getElem? hd)).2)⟩
theorem all_nil {α : Type} {P : α → Prop} : ∀ x ∈ ([] : List α), P x := fun _ h => by cases h
theorem all_cons {α : Type} {P : α → Prop} {a : α} {l : List α} (h : P a) (k : ∀ x ∈ l, P x) : ∀ x ∈ a :: l, P x := List.forall_mem_cons.2 ⟨h, k⟩
def patX (s : ByteArray) : Pt := groupP 3 [nodeV s, quantV (edgeV ⟨#[101]⟩) 0 (-1)]
def patL : Pt := groupP 3 [quantV (edgeV ⟨#[]⟩) 2 3, edgeV ⟨#[]⟩]
def tailN (q : Qy) : Int := if (varsP q.pat).Nodup then (if endsP q.pat = false then 5 else if 400 < sizeN q.pat then 6 else if (lenP q.pat).high = none ∧ q.mode = 0 ∧ q.sel = 0 then 5 else 0) else 3
theorem tail_eq (q : Qy) : tailQ q = tailN q := by
  unfold tailQ tailN namesQ
  by_cases h : (varsP q.pat).Nodup
  · rw [if_neg (fun hc => (compN_sort _).1 hc h), if_pos h]
  · rw [if_pos ((compN_sort _).2 h), if_neg h]
theorem check_eq (q : Qy) : checkQ q = if headQ q = false then 1 else if 50 < depthP 50 q.pat then 6 else if rightP q.pat = false then 1 else tailN q := by
  unfold checkQ; rw [tail_eq]
theorem chk_a : checkQ ⟨0, 0, 0, patX ⟨#[120]⟩⟩ = 5 := by rw [check_eq]; decide +kernel
theorem chk_b : checkQ ⟨1, 0, 0, patX ⟨#[120]⟩⟩ = 0 := by rw [check_eq]; decide +kernel
theorem chk_c : checkQ ⟨1, 0, 0, patX ⟨#[101]⟩⟩ = 3 := by rw [check_eq]; decide +kernel
theorem len_l : lenP patL = ⟨3, some 4⟩ := by decide +kernel
theorem right_l : rightP patL = true := by decide +kernel
set_option maxRecDepth 100000 in
set_option maxHeartbeats 4000000 in
theorem shown13_v : CallsV Try.prog 28 [] (.val (vB true)) := by
  have h1 := node13_v ⟨#[120]⟩
  have h2 := edge13_v ⟨#[101]⟩
  have h3 := quant13_v (edgeV ⟨#[101]⟩) 0 (-1)
  have h4 := seq13_m [nodeV ⟨#[120]⟩, quantV (edgeV ⟨#[101]⟩) 0 (-1)] (by decide)
  simp only [ownP, List.map_cons, List.map_nil] at h4
  have hA := check_v ⟨0, 0, 0, patX ⟨#[120]⟩⟩ (by decide +kernel)
  have hB := check_v ⟨1, 0, 0, patX ⟨#[120]⟩⟩ (by decide +kernel)
  have hC := check_v ⟨1, 0, 0, patX ⟨#[101]⟩⟩ (by decide +kernel)
  rw [chk_a] at hA
  rw [chk_b] at hB
  rw [chk_c] at hC
  have h5 := edge13_v ⟨#[]⟩
  have h6 := quant13_v (edgeV ⟨#[]⟩) 2 3
  have h7 := seq13_v [quantV (edgeV ⟨#[]⟩) 2 3, edgeV ⟨#[]⟩] (by decide)
  have h8 := Lengths_v patL right_l
  rw [len_l] at h8
  refine callsV_of_W0 (Ty := Ty) ty_ok Try.func28 rfl rfl fun w0 hp => ?_
  iterate 6 (first | refine W_seq ?_ | refine W_region ?_ | (refine RL_nil ?_; (first | change W _ _ _ _ _ | change EndQ _ _ _ _ _ _ | change Exists _ | change EndG _ _ _ _ _ _ _ _ _ _ | change EndM _ _ _ _ _ _ _ | skip)) | (refine isRL ?_; first | refine uMv ?_ | (refine isCl ?_; first | refine uC (h1) ?_ | refine uC (h2) ?_ | refine uC (h3) ?_ | refine uM (h4) ?_ | refine uP ?_ | refine uAk ?_ | refine uA ?_ | refine uA0 ?_ | refine uWl ?_) | (refine isBd ?_; first | refine uBd ?_ | refine uP ?_) | (refine isSt ?_; first | refine uSw ?_ | refine uS ?_ | refine uSc ?_) | refine uBs ?_ | refine uP ?_ | refine uN ?_) | (refine W_skip ?_; (first | change W _ _ _ _ _ | change EndQ _ _ _ _ _ _ | change Exists _ | change EndG _ _ _ _ _ _ _ _ _ _ | change EndM _ _ _ _ _ _ _ | skip)) | (refine W_ret ?_; (first | change W _ _ _ _ _ | change EndQ _ _ _ _ _ _ | change Exists _ | change EndG _ _ _ _ _ _ _ _ _ _ | change EndM _ _ _ _ _ _ _ | skip)))
  refine uC h1 ?_
  refine uC h2 ?_
  refine uC h3 ?_
  iterate 1 (first | refine W_seq ?_ | refine W_region ?_ | (refine RL_nil ?_; (first | change W _ _ _ _ _ | change EndQ _ _ _ _ _ _ | change Exists _ | change EndG _ _ _ _ _ _ _ _ _ _ | change EndM _ _ _ _ _ _ _ | skip)) | (refine isRL ?_; first | refine uMv ?_ | (refine isCl ?_; first | refine uP ?_ | refine uAk ?_ | refine uA ?_ | refine uA0 ?_ | refine uWl ?_) | (refine isBd ?_; first | refine uBd ?_ | refine uP ?_) | (refine isSt ?_; first | refine uSw ?_ | refine uS ?_ | refine uSc ?_) | refine uBs ?_ | refine uP ?_ | refine uN ?_) | (refine W_skip ?_; (first | change W _ _ _ _ _ | change EndQ _ _ _ _ _ _ | change Exists _ | change EndG _ _ _ _ _ _ _ _ _ _ | change EndM _ _ _ _ _ _ _ | skip)) | (refine W_ret ?_; (first | change W _ _ _ _ _ | change EndQ _ _ _ _ _ _ | change Exists _ | change EndG _ _ _ _ _ _ _ _ _ _ | change EndM _ _ _ _ _ _ _ | skip)))
  refine uM h4 ?_
  refine uBdC (cs := [.d (.v (.int .i64 0)), .d (.v (.int .i64 0)), .d (.v (.int .i64 0)), .d (.v (.int .i64 3)), .d (.v (.string ⟨#[]⟩)), .d (.v (.int .i64 0)), .d (.v (.int .i64 0)), .d (.v (.string ⟨#[]⟩)), .d (.v (.int .i64 0)), .d (.v (.int .i64 0)), .d (.v (.float .f64 0)), .d (.v (.string ⟨#[]⟩)), .d (.sl []), .d (.v (.int .i64 0)), .d (.v (.string ⟨#[]⟩)), .d (.v (.int .i64 0)), .d (.v (.int .i64 0)), .d (.v (.float .f64 0)), .d (.v (.string ⟨#[]⟩)), .d (.sl []), .d (.v (.int .i64 0)), .d (.v (.int .i64 0)), .own 1001 [encP (nodeV ⟨#[120]⟩), encP (quantV (edgeV ⟨#[101]⟩) 0 (-1))]]) ?_ (hs := by rfl)
  refine uN ?_
  refine uBO 1 (pin_low (by decide)) ?_
  refine uSo ?_
  iterate 23 (first | refine W_seq ?_ | refine W_region ?_ | (refine RL_nil ?_; (first | change W _ _ _ _ _ | change EndQ _ _ _ _ _ _ | change Exists _ | change EndG _ _ _ _ _ _ _ _ _ _ | change EndM _ _ _ _ _ _ _ | skip)) | (refine isRL ?_; first | refine uMv ?_ | (refine isCl ?_; first | refine uC (hA) ?_ | refine uC (hB) ?_ | refine uP ?_ | refine uAk ?_ | refine uA ?_ | refine uA0 ?_ | refine uWl ?_) | (refine isBd ?_; first | refine uBd ?_ | refine uP ?_) | (refine isSt ?_; first | refine uSw ?_ | refine uS ?_ | refine uSc ?_ | refine uSo ?_) | refine uBs ?_ | refine uP ?_ | refine uN ?_) | (refine W_skip ?_; (first | change W _ _ _ _ _ | change EndQ _ _ _ _ _ _ | change Exists _ | change EndG _ _ _ _ _ _ _ _ _ _ | change EndM _ _ _ _ _ _ _ | skip)) | (refine W_ret ?_; (first | change W _ _ _ _ _ | change EndQ _ _ _ _ _ _ | change Exists _ | change EndG _ _ _ _ _ _ _ _ _ _ | change EndM _ _ _ _ _ _ _ | skip)))
  refine uKw (k1 := 1) (k2 := 1001) (cs := [.d (.v (.int .i64 1)), .d (.v (.int .i64 0)), .d (.v (.int .i64 0)), .d (.v (.int .i64 3)), .d (.v (.string ⟨#[]⟩)), .d (.v (.int .i64 0)), .d (.v (.int .i64 0)), .d (.v (.string ⟨#[]⟩)), .d (.v (.int .i64 0)), .d (.v (.int .i64 0)), .d (.v (.float .f64 0)), .d (.v (.string ⟨#[]⟩)), .d (.sl []), .d (.v (.int .i64 0)), .d (.v (.string ⟨#[]⟩)), .d (.v (.int .i64 0)), .d (.v (.int .i64 0)), .d (.v (.float .f64 0)), .d (.v (.string ⟨#[]⟩)), .d (.sl []), .d (.v (.int .i64 0)), .d (.v (.int .i64 0)), .own 1001 [encP (nodeV ⟨#[120]⟩), encP (quantV (edgeV ⟨#[101]⟩) 0 (-1))]]) (x0 := ⟨#[120]⟩) ?_ ?_ ?_
  · (repeat' (first | exact all_nil | refine all_cons ?_ ?_ | exact NoX.v _ | exact ⟨rfl, rfl⟩ | exact (okx_sl all_nil).2))
  · have hq : ∀ x ∈ encP (quantV (edgeV ⟨#[101]⟩) 0 (-1)), okx (.string ⟨#[120]⟩) x := by
      repeat' (first | exact all_nil | refine all_cons ?_ ?_ | exact okx_v (fun h => by cases h) | refine okx_sl ?_)
    have hn : ∀ x ∈ (encP (nodeV ⟨#[120]⟩)).drop 2, okx (.string ⟨#[120]⟩) x := by
      repeat' (first | exact all_nil | refine all_cons ?_ ?_ | exact okx_v (fun h => by cases h) | refine okx_sl ?_)
    intro i r hr j x hx hne
    match i, hr with
    | 0, hr =>
      obtain rfl : encP (nodeV ⟨#[120]⟩) = r := by injection hr
      match j, hx, hne with
      | 0, hx, _ =>
        obtain rfl : D.v (.int .i64 1) = x := by injection hx
        exact okx_v (fun h => by cases h)
      | 1, _, hne => exact (hne ⟨rfl, rfl⟩).elim
      | j + 2, hx, _ => exact hn x (List.mem_of_getElem? (i := j) (by rw [List.getElem?_drop, Nat.add_comm]; exact hx))
    | 1, hr =>
      obtain rfl : encP (quantV (edgeV ⟨#[101]⟩) 0 (-1)) = r := by injection hr
      exact hq x (List.mem_of_getElem? hx)
    | i + 2, hr => cases hr
  repeat' (first | refine W_seq ?_ | refine W_region ?_ | (refine RL_nil ?_; (first | change W _ _ _ _ _ | change EndQ _ _ _ _ _ _ | change Exists _ | change EndG _ _ _ _ _ _ _ _ _ _ | change EndM _ _ _ _ _ _ _ | skip)) | (refine isRL ?_; first | refine uMv ?_ | (refine isCl ?_; first | refine uC (hC) ?_ | refine uC (h5) ?_ | refine uC (h6) ?_ | refine uC (h7) ?_ | refine uC (h8) ?_ | refine uP ?_ | refine uAk ?_ | refine uA ?_ | refine uA0 ?_ | refine uWl ?_) | (refine isBd ?_; first | refine uBd ?_ | refine uP ?_) | (refine isSt ?_; first | refine uSw ?_ | refine uS ?_ | refine uSc ?_) | refine uBs ?_ | refine uP ?_ | refine uN ?_) | (refine W_skip ?_; (first | change W _ _ _ _ _ | change EndQ _ _ _ _ _ _ | change Exists _ | change EndG _ _ _ _ _ _ _ _ _ _ | change EndM _ _ _ _ _ _ _ | skip)) | (refine W_ret ?_; (first | change W _ _ _ _ _ | change EndQ _ _ _ _ _ _ | change Exists _ | change EndG _ _ _ _ _ _ _ _ _ _ | change EndM _ _ _ _ _ _ _ | skip)))
  exact end_r (by rfl) rfl
end Go.Proofs.Ytgdgcloenhnbiaa
