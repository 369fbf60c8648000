/- Plain data of the program's types: expressions, texts, patterns. -/
import Derived.Test.YtjhkehloipmjfaaWO
import Derived.Test.YtjhkehloipmjfaaWE
import Derived.Test.YtjhkehloipmjfaaWH
import Derived.Test.YtjhkehloipmjfaaWT
import Derived.Test.YtjhkehloipmjfaaRows
import Derived.Test.YtjhkehloipmjfaaG1
import Derived.Test.YtjhkehloipmjfaaG5
namespace Go.Proofs.Ytjhkehloipmjfaa
open Go.RowKit Go.ChangeShapes Go.WideShapes Go.Deep
theorem list_dec {α : Type} (f : α → List D) (p : List D → Prop) (h : ∀ q, p q → ∃ x, q = f x) : ∀ rows : List (List D), (∀ q ∈ rows, p q) → ∃ l : List α, rows = l.map f
  | [], _ => ⟨[], rfl⟩
  | q :: rows, hr => by
    obtain ⟨x, rfl⟩ := h q (hr q List.mem_cons_self)
    obtain ⟨l, rfl⟩ := list_dec f p h rows fun q hq => hr q (List.mem_cons_of_mem _ hq)
    exact ⟨x :: l, rfl⟩
theorem sh_succ {P : Program} {n : Nat} {t : TypeId} {ds : List D} (h : Sh P n t ds) : ∃ m, n = m + 1 := by
  cases n with
  | zero => exact h.elim
  | succ m => exact ⟨m, rfl⟩
section
variable {P : Program} {n : Nat} {t : TypeId} {ds : List D}
theorem sh_int {k : IntKind} (hu : P.underlying t = some (.int k)) (h : Sh P n t ds) : ∃ m, (Lit.int k m).wf = true ∧ ds = [.v (.int k m)] := by
  obtain ⟨m, rfl⟩ := sh_succ h; unfold Sh at h; rw [hu] at h; exact h
theorem sh_str (hu : P.underlying t = some .string) (h : Sh P n t ds) : ∃ s : ByteArray, s.size ≤ 140737488351232 ∧ ds = [.v (.string s)] := by
  obtain ⟨m, rfl⟩ := sh_succ h; unfold Sh at h; rw [hu] at h; exact h
theorem sh_float {k : FloatKind} (hu : P.underlying t = some (.float k)) (h : Sh P n t ds) : ∃ m, ds = [.v (.float k m)] := by
  obtain ⟨m, rfl⟩ := sh_succ h; unfold Sh at h; rw [hu] at h; exact h
theorem sh_slice {e : TypeId} (hu : P.underlying t = some (.slice e)) (h : Sh P n t ds) : ∃ m rows, n = m + 1 ∧ ds = [.sl rows] ∧ rows.length * P.bytesOf e ≤ 140737488351232 ∧ ∀ q ∈ rows, Sh P m e q := by
  obtain ⟨m, rfl⟩ := sh_succ h; unfold Sh at h; rw [hu] at h
  obtain ⟨rows, h1, h2, h3⟩ := h
  exact ⟨m, rows, rfl, h1, h2, fun q hq => (h3 q hq).1⟩
theorem sh_struct {fs : Array Field} (hu : P.underlying t = some (.struct fs)) (h : Sh P n t ds) : ∃ m, n = m + 1 ∧ ds.length = P.cellsOf t ∧ ∀ (i : Nat) (f : Field), fs[i]? = some f → Sh P m f.type ((ds.drop f.offset).take (P.cellsOf f.type)) := by
  obtain ⟨m, rfl⟩ := sh_succ h; unfold Sh at h; rw [hu] at h
  exact ⟨m, rfl, h.1, h.2⟩
end
set_option maxRecDepth 100000 in
theorem dec_value {n : Nat} {ds : List D} (h : Sh Try.prog n 24 ds) : ∃ v : Val, ds = encV v := by
  obtain ⟨m, rfl, hl, hf⟩ := sh_struct Try.underlying24 h
  have k1 : Try.prog.cellsOf 3 = 1 := by kernel_rfl
  have k2 : Try.prog.cellsOf 2 = 1 := by kernel_rfl
  have k3 : Try.prog.cellsOf 9 = 1 := by kernel_rfl
  have k4 : Try.prog.cellsOf 22 = 1 := by kernel_rfl
  have k5 : Try.prog.cellsOf 24 = 4 := by kernel_rfl
  rw [k5] at hl
  match ds, hl with
  | [a, b, c, d], _ =>
    obtain ⟨x0, _, e0⟩ := sh_int Try.underlying3 (show Sh Try.prog m 3 [a] by simpa [k1] using hf 0 _ rfl)
    obtain ⟨x1, _, e1⟩ := sh_int Try.underlying2 (show Sh Try.prog m 2 [b] by simpa [k2] using hf 1 _ rfl)
    obtain ⟨x2, e2⟩ := sh_float Try.underlying22 (show Sh Try.prog m 22 [c] by simpa [k4] using hf 2 _ rfl)
    obtain ⟨x3, _, e3⟩ := sh_str Try.underlying9 (show Sh Try.prog m 9 [d] by simpa [k3] using hf 3 _ rfl)
    simp only [List.cons.injEq, and_true] at e0 e1 e2 e3
    exact ⟨⟨x0, x1, x2, x3⟩, by rw [e0, e1, e2, e3]; rfl⟩
set_option maxRecDepth 100000 in
theorem dec_expr : ∀ (n : Nat) (ds : List D), Sh Try.prog n 27 ds → ∃ e : E, ds = encE e := by
  intro n
  induction n using Nat.strongRecOn with
  | _ n ih =>
  intro ds h
  obtain ⟨m, rfl, hl, hf⟩ := sh_struct Try.underlying27 h
  have k1 : Try.prog.cellsOf 3 = 1 := by kernel_rfl
  have k3 : Try.prog.cellsOf 9 = 1 := by kernel_rfl
  have k4 : Try.prog.cellsOf 25 = 1 := by kernel_rfl
  have k5 : Try.prog.cellsOf 24 = 4 := by kernel_rfl
  have k6 : Try.prog.cellsOf 27 = 7 := by kernel_rfl
  rw [k6] at hl
  match ds, hl with
  | [a0, a1, a2, a3, a4, a5, a6], _ =>
    obtain ⟨x0, _, e0⟩ := sh_int Try.underlying3 (show Sh Try.prog m 3 [a0] by simpa [k1] using hf 0 _ rfl)
    obtain ⟨x1, _, e1⟩ := sh_str Try.underlying9 (show Sh Try.prog m 9 [a1] by simpa [k3] using hf 1 _ rfl)
    obtain ⟨x2, e2⟩ := dec_value (show Sh Try.prog m 24 [a2, a3, a4, a5] by simpa [k5] using hf 2 _ rfl)
    obtain ⟨m3, rows, hm3, e3, _, hr⟩ := sh_slice Try.underlying25 (show Sh Try.prog m 25 [a6] by simpa [k4] using hf 3 _ rfl)
    simp only [List.cons.injEq, and_true, encV] at e0 e1 e2 e3
    obtain ⟨l, rfl⟩ := list_dec encE (fun q => Sh Try.prog m3 27 q) (fun q hq => ih m3 (by omega) q hq) rows hr
    obtain ⟨e2, e2', e2'', e2'''⟩ := e2
    exact ⟨⟨x0, x1, x2, l⟩, by rw [encE_eq, e0, e1, e2, e2', e2'', e2''', e3]⟩
set_option maxRecDepth 100000 in
theorem dec_pat : ∀ (n : Nat) (ds : List D), Sh Try.prog n 53 ds → ∃ e : Pt, ds = encP e := by
  intro n
  induction n using Nat.strongRecOn with
  | _ n ih =>
  intro ds h
  obtain ⟨m, rfl, hl, hf⟩ := sh_struct Try.underlying53 h
  have k1 : Try.prog.cellsOf 3 = 1 := by kernel_rfl
  have k3 : Try.prog.cellsOf 9 = 1 := by kernel_rfl
  have k4 : Try.prog.cellsOf 51 = 1 := by kernel_rfl
  have k5 : Try.prog.cellsOf 27 = 7 := by kernel_rfl
  have k6 : Try.prog.cellsOf 53 = 20 := by kernel_rfl
  rw [k6] at hl
  match ds, hl with
  | [a0, a1, a2, b0, b1, b2, b3, b4, b5, b6, c0, c1, c2, c3, c4, c5, c6, a5, a6, a7], _ =>
    obtain ⟨x0, _, e0⟩ := sh_int Try.underlying3 (show Sh Try.prog m 3 [a0] by simpa [k1] using hf 0 _ rfl)
    obtain ⟨x1, _, e1⟩ := sh_str Try.underlying9 (show Sh Try.prog m 9 [a1] by simpa [k3] using hf 1 _ rfl)
    obtain ⟨x2, _, e2⟩ := sh_int Try.underlying3 (show Sh Try.prog m 3 [a2] by simpa [k1] using hf 2 _ rfl)
    obtain ⟨x3, e3⟩ := dec_expr _ _ (show Sh Try.prog m 27 [b0, b1, b2, b3, b4, b5, b6] by simpa [k5] using hf 3 _ rfl)
    obtain ⟨x4, e4⟩ := dec_expr _ _ (show Sh Try.prog m 27 [c0, c1, c2, c3, c4, c5, c6] by simpa [k5] using hf 4 _ rfl)
    obtain ⟨x5, _, e5⟩ := sh_int Try.underlying3 (show Sh Try.prog m 3 [a5] by simpa [k1] using hf 5 _ rfl)
    obtain ⟨x6, _, e6⟩ := sh_int Try.underlying3 (show Sh Try.prog m 3 [a6] by simpa [k1] using hf 6 _ rfl)
    obtain ⟨m3, rows, hm3, e7, _, hr⟩ := sh_slice Try.underlying51 (show Sh Try.prog m 51 [a7] by simpa [k4] using hf 7 _ rfl)
    obtain ⟨l, rfl⟩ := list_dec encP (fun q => Sh Try.prog m3 53 q) (fun q hq => ih m3 (by omega) q hq) rows hr
    rw [encE_eq] at e3 e4
    simp only [List.cons.injEq, and_true] at e0 e1 e2 e3 e4 e5 e6 e7
    obtain ⟨f0, f1, f2, f3, f4, f5, f6⟩ := e3
    obtain ⟨g0, g1, g2, g3, g4, g5, g6⟩ := e4
    exact ⟨⟨x0, x1, x2, x3, x4, x5, x6, l⟩, by rw [encP_eq, e0, e1, e2, f0, f1, f2, f3, f4, f5, f6, g0, g1, g2, g3, g4, g5, g6, e5, e6, e7]⟩
def simpleL : List TypeId := [3, 2, 4, 9, 22, 41, 24, 27, 25, 53, 51]
section
variable {S : Nat → Nat → Prop} {w : World} {ds : List D} {v : Value}
theorem arg_agg {us : Array Value} (hv : v = .agg us) (h : RDL S w ds v.cells.toList) : PV S w (.dat ds) v := fun _ _ => by
  subst hv
  have h2 : RDL S w ds us.toList := h
  have := RV.dat (γ := ‹Nat → Nat›) (T := ‹Nat → Value›) h2
  rwa [Array.toArray_toList] at this
theorem argsR_nil : ArgsR S w [] [] := ⟨rfl, fun j y v h => by simp at h⟩
theorem argsR_cons {x : VV} {xs : List VV} {vs : List Value} (h : PV S w x v) (k : ArgsR S w xs vs) : ArgsR S w (x :: xs) (v :: vs) :=
  ⟨by simp [k.1], fun j y u hy hu => by
    cases j with
    | zero => simp only [List.getElem?_cons_zero, Option.some.injEq] at hy hu; subst hy; subst hu; exact h
    | succ j => exact k.2 j y u (by simpa using hy) (by simpa using hu)⟩
end
section
variable {H : Type} {enc : TypeId × Value → H} {w : World} {base b0 : Nat} {spare : Nat → Bool} {held : Bool} {r : Reach} {ts : List TypeId} {ds : List (DataW H)}
end
end Go.Proofs.Ytjhkehloipmjfaa
/- The bulk of what is handed in bounds the bulk of the plain data that it is. -/
namespace Go.Proofs.Ytjhkehloipmjfaa
open Go.RowKit Go.ChangeShapes Go.WideShapes Go.Deep
mutual
def bulkD : D → Nat
  | .v (.string s) => s.size + 1
  | .v _ => 1
  | .sl rows => bulkRR rows + 1
  | .pi _ => 1
  | .fn _ _ => 1
def bulkR : List D → Nat
  | [] => 0
  | d :: l => bulkD d + bulkR l
def bulkRR : List (List D) → Nat
  | [] => 0
  | q :: l => bulkR q + bulkRR l
end
theorem bulkR_app : ∀ (a b : List D), bulkR (a ++ b) = bulkR a + bulkR b
  | [], b => by simp [bulkR]
  | d :: a, b => by simp only [List.cons_append, bulkR, bulkR_app a b]; omega
theorem up_one {H : Type} (d : DataW H) : 1 ≤ Rows.uptoBulk d := by
  cases d with
  | lit l => cases l <;> simp [Rows.uptoBulk]
  | nil => simp [Rows.uptoBulk]
  | ptr d => simp [Rows.uptoBulk]
  | slice elems spare => simp [Rows.uptoBulk]
  | agg parts => simp [Rows.uptoBulk]
  | iface t d => simp [Rows.uptoBulk]
  | map entries => simp [Rows.uptoBulk]
  | held h => simp [Rows.uptoBulk]
theorem rows_le {H : Type} : ∀ (rows : List (List D)) (l : List (DataW H)), rows.length = l.length → (∀ (i : Nat) (q : List D) (d : DataW H), rows[i]? = some q → l[i]? = some d → bulkR q ≤ Rows.uptoBulk d) → bulkRR rows ≤ Rows.uptoBulkAll l
  | [], l, _, _ => by simp [bulkRR]
  | q :: rows, [], h, _ => by simp at h
  | q :: rows, d :: l, h, hk => by
    have h1 := hk 0 q d rfl rfl
    have h2 := rows_le rows l (by simpa using h) fun i q d hq hd => hk (i + 1) q d (by simpa using hq) (by simpa using hd)
    simp only [bulkRR, Rows.uptoBulkAll]; omega
section
variable {H : Type} {enc : TypeId × Value → H} {P : Program} {w : World} {base : Nat} {spare : Nat → Bool} {held : Bool}
theorem fields_le (ds : List D) : ∀ (fs : List Field) (a m : Nat) (l : List (DataW H)), contig P fs a = some m → fs.length = l.length →
    (∀ (i : Nat) (f : Field) (d : DataW H), fs[i]? = some f → l[i]? = some d → bulkR ((ds.drop f.offset).take (P.cellsOf f.type)) ≤ Rows.uptoBulk d) → a ≤ m ∧ bulkR ((ds.drop a).take (m - a)) ≤ Rows.uptoBulkAll l
  | [], a, m, l, h, _, _ => by
    simp only [contig, Option.some.injEq] at h
    subst h
    exact ⟨Nat.le_refl _, by simp [bulkR]⟩
  | f :: fs, a, m, [], h, hl, _ => by simp at hl
  | f :: fs, a, m, d :: l, h, hl, hk => by
    simp only [contig] at h
    split at h
    · rename_i hc
      obtain ⟨h1, h2⟩ := fields_le ds fs _ m l h (by simpa using hl) fun i f d hf hd => hk (i + 1) f d (by simpa using hf) (by simpa using hd)
      have h0 := hk 0 f d rfl rfl
      rw [hc.1] at h0
      refine ⟨by omega, ?_⟩
      have e : (ds.drop a).take (m - a) = (ds.drop a).take (P.cellsOf f.type) ++ (ds.drop (a + P.cellsOf f.type)).take (m - (a + P.cellsOf f.type)) := by
        rw [← List.drop_drop, ← List.take_add]
        congr 1
        omega
      rw [e, bulkR_app]
      simp only [Rows.uptoBulkAll]
      omega
    · cases h
theorem bulk_any (L : List TypeId) (hL : L.all (simpleT P L) = true) : ∀ (fuel : Nat) (t : TypeId) (cs : List Value) (x : DataW H × List MemPlace) (ds : List D), L.contains t = true → DataW.trod enc P w base spare held fuel t cs = some x → RDL (SW_ w) w ds cs → Sh P fuel t ds → bulkR ds ≤ Rows.uptoBulk x.1 := by
  intro fuel
  induction fuel using Nat.strongRecOn with
  | _ fuel ih =>
  intro t cs x ds ht h hr hsh
  have hs := List.all_eq_true.1 hL t (by simpa using ht)
  obtain ⟨n0, hn0⟩ : ∃ n, fuel = n + 1 := by
    cases fuel with
    | zero => simp [DataW.trod] at h
    | succ n => exact ⟨n, rfl⟩
  rw [hn0] at hsh
  unfold Sh at hsh
  unfold simpleT at hs
  have hone := up_one x.1
  split at hs
  · rename_i k hu
    rw [hu] at hsh
    obtain ⟨m, _, rfl⟩ := hsh
    simpa [bulkR, bulkD] using hone
  · rename_i hu
    rw [hu] at hsh
    obtain ⟨b, rfl⟩ := hsh
    simpa [bulkR, bulkD] using hone
  · rename_i hu
    rw [hu] at hsh
    obtain ⟨s', _, rfl⟩ := hsh
    obtain ⟨s, rfl, hx, _⟩ := DataW.trod_string hu h
    obtain ⟨u, hu1, hu2⟩ := hr.2 0 _ rfl
    simp only [List.getElem?_cons_zero, Option.some.injEq] at hu1
    subst hu1
    cases hu2
    rw [hx]
    simp [bulkR, bulkD, Rows.uptoBulk]
  · rename_i k hu
    rw [hu] at hsh
    obtain ⟨m, rfl⟩ := hsh
    simpa [bulkR, bulkD] using hone
  · rename_i e hu
    rw [hu] at hsh
    obtain ⟨rows, rfl, _, hrows⟩ := hsh
    obtain ⟨u, hu1, hu2⟩ := hr.2 0 _ rfl
    simp only [Bool.and_eq_true] at hs
    obtain ⟨⟨he, hce⟩, _⟩ := hs
    have hce' : 0 < P.cellsOf e := by simpa [Nat.blt_eq] using hce
    rcases DataW.trod_slice hu h with ⟨rfl, hx⟩ | ⟨a, len, cap, elems, rest, n, hn, rfl, hx, hb, hl, hm, hlen, hel, _, _⟩
    · simp only [List.getElem?_cons_zero, Option.some.injEq] at hu1
      generalize hre : D.sl rows = dd at hu2
      cases hu2 with
      | v _ _ => cases hre
      | pi _ _ _ _ _ _ => cases hre
      | fn _ _ _ _ _ => cases hre
      | sl rows' A c sz vs cap lim nil row val spot mem =>
        injection hre with hre; subst hre
        injection hu1 with h1 h2
        have : rows = [] := List.length_eq_zero_iff.1 h2.symm
        subst this
        simpa [bulkR, bulkD, bulkRR] using hone
    · simp only [List.getElem?_cons_zero, Option.some.injEq] at hu1
      generalize hre : D.sl rows = dd at hu2
      cases hu2 with
      | v _ _ => cases hre
      | pi _ _ _ _ _ _ => cases hre
      | fn _ _ _ _ _ => cases hre
      | sl rows' A c sz vs cap' lim nil row val spot mem =>
        injection hre with hre; subst hre
        injection hu1 with h1 h2 h3
        subst h1
        have key : bulkRR rows ≤ Rows.uptoBulkAll (elems.map (·.1)) := by
          refine rows_le rows _ (by rw [List.length_map]; omega) fun i q d hq hd => ?_
          have hi : i < rows.length := (List.getElem?_eq_some_iff.1 hq).1
          rw [List.getElem?_map, Option.map_eq_some_iff] at hd
          obtain ⟨y, hy, rfl⟩ := hd
          have h4 := hel i (by omega)
          rw [hy] at h4
          obtain ⟨us, hc, htr⟩ := Option.bind_eq_some_iff.1 h4
          obtain ⟨_, g1, g2⟩ := World.cells?_some hc
          obtain ⟨hq1, hq2⟩ := hrows q (List.mem_of_getElem? hq)
          have hsz : sz = P.cellsOf e := (row i q hq).symm.trans hq2
          have hsp := spot a rfl (by omega)
          refine ih n (by omega) e us y q he htr ⟨by rw [g1, hq2], fun j dd hj => ?_⟩ (by
            have : n0 = n := by omega
            rw [← this]; exact hq1)
          have hjl : j < q.length := (List.getElem?_eq_some_iff.1 hj).1
          have hv := val i q hq j dd hj
          have hm2 := (mem a rfl i hi j (by rw [hsz, ← hq2]; exact hjl)).2
          refine ⟨vs i j, ?_, hv⟩
          rw [← g2 j (by rw [← hq2]; exact hjl), ← hm2, hsz]
          obtain ⟨b, off, sp⟩ := a
          simp only at hsp
          subst hsp
          rw [Addr.add_lit, Addr.add_lit, Nat.add_assoc]
        rw [hx]
        simp only [bulkR, bulkD, Rows.uptoBulk]
        omega
  · rename_i fs hu
    rw [hu] at hsh
    simp only [Bool.and_eq_true, beq_iff_eq] at hs
    obtain ⟨hmem, hcon⟩ := hs
    obtain ⟨xs, n, hn, hx, hlen, hxs, hfl⟩ := DataW.trod_struct hu h
    have hnn : n0 = n := by omega
    subst hnn
    obtain ⟨hdl, hparts⟩ := hsh
    obtain ⟨_, h2⟩ := fields_le (P := P) ds fs.toList 0 _ (xs.map (·.1)) hcon (by rw [List.length_map, hxs]; simp) fun i f d hf hd => by
      rw [List.getElem?_map, Option.map_eq_some_iff] at hd
      obtain ⟨y, hy, rfl⟩ := hd
      rw [Array.getElem?_toList] at hf
      have h3 := hfl i f hf
      rw [hy] at h3
      refine ih n0 (by omega) _ _ _ _ ?_ h3 ((hr.drop _).take _) (hparts i f hf)
      exact List.all_eq_true.1 hmem f (by rw [← Array.getElem?_toList] at hf; exact List.mem_of_getElem? hf)
    rw [List.drop_zero, Nat.sub_zero, List.take_of_length_le (by omega)] at h2
    rw [hx]
    simp only [Rows.uptoBulk]
    omega
  · cases hs
end
theorem bulkRR_kids : ∀ (l : List Pt), bulkRR (l.map encP) = (l.map fun p => bulkR (encP p)).sum
  | [] => by simp [bulkRR]
  | p :: l => by simp only [List.map_cons, bulkRR, bulkRR_kids l, List.sum_cons]
theorem vars_bulk : ∀ p : Pt, 2 * (varsP p).length + ((varsP p).map ByteArray.size).sum ≤ bulkR (encP p) := Pt.ind fun p ih => by
  have hk : ∀ l : List Pt, (∀ k ∈ l, 2 * (varsP k).length + ((varsP k).map ByteArray.size).sum ≤ bulkR (encP k)) → 2 * (l.flatMap varsP).length + ((l.flatMap varsP).map ByteArray.size).sum ≤ (l.map fun p => bulkR (encP p)).sum := by
    intro l
    induction l with
    | nil => intro _; simp
    | cons x l ihl =>
      intro h
      have h1 := h x List.mem_cons_self
      have h2 := ihl fun k hk => h k (List.mem_cons_of_mem _ hk)
      rw [List.flatMap_cons, List.length_append, List.map_append, List.sum_append, List.map_cons, List.sum_cons]
      omega
  have hk := hk p.kids ih
  rw [varsP_eq, List.length_append, List.map_append, List.sum_append]
  have ho : 2 * (ownV p).length + ((ownV p).map ByteArray.size).sum ≤ p.var.size + 2 := by
    unfold ownV
    split
    · simp
    · simp; omega
  rw [encP_eq]
  simp only [bulkR, bulkD, bulkRR_kids]
  omega
end Go.Proofs.Ytjhkehloipmjfaa
namespace Go.Proofs.Ytjhkehloipmjfaa
open Go.RowKit Go.ChangeShapes Go.WideShapes Go.Deep
theorem up_part {H : Type} {d : DataW H} {l : List (DataW H)} (h : d ∈ l) : Rows.uptoBulk d ≤ Rows.uptoBulkAll l := by
  induction l with
  | nil => cases h
  | cons x r ih =>
    simp only [Rows.uptoBulkAll]
    cases List.mem_cons.1 h with
    | inl e => subst e; omega
    | inr e => have := ih e; omega
theorem up_bound {H : Type} {l : List (DataW H)} (hk : Rows.uptoSmall H l = true) : ∀ d ∈ l, Rows.uptoBulk d ≤ 1048576 := fun d hd => by
  have h1 : Rows.uptoBulkAll l ≤ 1048576 := of_decide_eq_true hk
  exact Nat.le_trans (up_part hd) h1
def simpleQ : List TypeId := 57 :: simpleL
theorem simpleQ_ok : simpleQ.all (simpleT Try.prog simpleQ) = true := by kernel_rfl
section
variable {H : Type} {enc : TypeId × Value → H} {w : World} {base b0 : Nat} {spare : Nat → Bool} {held : Bool} {r : Reach} {ts : List TypeId} {ds : List (DataW H)}
set_option maxRecDepth 100000 in
theorem arg_patB {j : Nat} {v : Value} {d : DataW H} {p : List MemPlace} (hsz : (DataW.weightsEach Try.prog ts ds).all (· ≤ reachBytes) = true) (ht : ts[j]? = some 53) (hd : ds[j]? = some d)
    (hv : Value.okWide Try.prog w r b0 53 v) (h : DataW.Trod enc Try.prog w base spare held 53 v d p) : ∃ e : Pt, PV (SW_ w) w (.dat (encP e)) v ∧ bulkR (encP e) ≤ Rows.uptoBulk d := by
  obtain ⟨cs, e, -⟩ := okWide_struct Try.underlying53 hv
  obtain ⟨n, hf⟩ := h
  obtain ⟨x, h1, h2⟩ := open_any simpleQ simpleQ_ok n _ _ _ rfl hf (List.all_eq_true.2 fun y hy => List.all_eq_true.1 hsz y (DataW.weights_mem_each ht hd y hy))
  have h3 := bulk_any simpleQ simpleQ_ok n _ _ _ x rfl hf h1 h2
  obtain ⟨y, rfl⟩ := dec_pat n x h2
  exact ⟨y, arg_agg e h1, h3⟩
end
/-- the names of what is handed in are few -/
theorem few_vars {p : Pt} (h : bulkR (encP p) ≤ 1048576) : (varsP p).length ≤ 1000000 - 1 ∧ ((varsP p).map ByteArray.size).sum ≤ 2000000 := by
  have := vars_bulk p
  exact ⟨by omega, by omega⟩
end Go.Proofs.Ytjhkehloipmjfaa
