/- The walks of label.holds and of what it calls. -/
import Derived.Test.YtljkfobgbjnilaaH1
namespace Go.Proofs.Ytljkfobgbjnilaa
open Go.RowKit

theorem run_kinds0 (w : World) (b : Nat) (hb : w.heap[b]? = some (.map kindM 5)) (n : Int) : (Instr.lookup 56 (.map (some b)) (.int .i64 n) false).run Try.prog w = .ok (.agg (kindV n).toArray) w := by
  have hz : (zeroValue 55).run Try.prog w = .ok (.agg #[.int .i64 0, .bool false, .nilFunc]) w := by kernel_rfl
  have hc := MapKept.run_checkKey (P := Try.prog) (w := w) Try.underlying3 (k := .int .i64 n) (show MapKept.IsKey (.int .i64) (.int .i64 n) from rfl) kindM.isEmpty 9999
  simp only [Instr.lookup, Sem.run_bind, run_underlying Try.underlying56, MapKept.run_getObj_map hb, Result.andThen_ok, Sem.run_pure, hc, MapKept.run_findKey Try.underlying3 (kinds_find n)]
  unfold kindV
  by_cases h4 : n = 4
  · simp [h4, kindE]
  by_cases h5 : n = 5
  · simp [h5, kindE]
  by_cases h6 : n = 6
  · simp [h6, kindE]
  by_cases h7 : n = 7
  · simp [h7, kindE]
  by_cases h8 : n = 8
  · simp [h8, kindE]
  · simp [h4, h5, h6, h7, h8, hz]

set_option maxHeartbeats 1000000 in
set_option maxRecDepth 100000 in
theorem holds_step {w0 : World} {S : Nat → Prop} {e : E} {cs : List Value} (h : RE S w0 e cs) (v : Value) (b : Bool) (fid : Nat) (n : Int) (nm : Bool) (hkv : kindV e.kind = [.int .i64 n, .bool nm, .func (.func fid) #[] #[]]) (eg : ∀ (args : Array Value) (w : World), (callFunc fid args).run Try.prog w = .ok (.enter fid args) w)
    (HK : ∀ W, Below w0.heap.size w0 W → Calls Try.prog fid #[v, .agg cs.toArray] W (RBool b W)) (w : World) (hb : Below w0.heap.size w0 w) : Calls Try.prog 29 #[v, .agg cs.toArray] w (RBool b w) := by
  obtain ⟨A, c, css, f, hl⟩ := h.open_
  obtain rfl := f.eq
  clear f h hl
  have hHK := Lib.hid (show ∀ W, Below w0.heap.size w0 W → Calls Try.prog fid #[v, .agg #[.int .i64 e.kind, .string e.name, .int .i64 e.val.kind, .int .i64 e.val.n, .float .f64 e.val.f, .string e.val.s, .slice A e.kids.length c]] W (RBool b W) from HK); clear HK
  go_enter Try.func29, Try.ntmps29
  go_upto_region 1 with fail
  generalize hW : (w.alloc (Obj.cells (cellsE e A c).toArray 28)) = W
  have hkA : ∀ j u, (cellsE e A c)[j]? = some u → W.cell? ⟨w.heap.size, j, none⟩ = some u := fun j u hj => by
    rw [← hW, cell_new]; exact hj
  have hbW : Below w.heap.size w W := by rw [← hW]; exact below_new (Below.refl _ _) _
  clear hW
  have hbM : Below w0.heap.size w0 (W.alloc (.map kindM 5)).drew := below_trans hb (below_trans hbW (below_new (Below.refl _ _) _).drew)
  have hbN : Below w.heap.size w (W.alloc (.map kindM 5)).drew := (below_trans hbW (below_new (Below.refl _ _) _).drew)
  have l1 := run_kinds0 (W.alloc (.map kindM 5)).drew W.heap.size (heap_alloc_new W _) e.kind
  rw [hkv] at l1
  have lf : ∀ W : World, (Instr.field 55 (.agg #[.int .i64 n, .bool nm, .func (.func fid) #[] #[]]) 2).run Try.prog W = .ok (.func (.func fid) #[] #[]) W := fun W => by kernel_rfl
  have a0 := hkA 0 _ rfl; have a1 := hkA 1 _ rfl; have a2 := hkA 2 _ rfl; have a3 := hkA 3 _ rfl; have a4 := hkA 4 _ rfl; have a5 := hkA 5 _ rfl; have a6 := hkA 6 _ rfl
  have b0 := cell_kept (below_new (Below.refl _ _) (.map kindM 5)).drew a0; have b1 := cell_kept (below_new (Below.refl _ _) (.map kindM 5)).drew a1; have b2 := cell_kept (below_new (Below.refl _ _) (.map kindM 5)).drew a2; have b3 := cell_kept (below_new (Below.refl _ _) (.map kindM 5)).drew a3
  have b4 := cell_kept (below_new (Below.refl _ _) (.map kindM 5)).drew a4; have b5 := cell_kept (below_new (Below.refl _ _) (.map kindM 5)).drew a5; have b6 := cell_kept (below_new (Below.refl _ _) (.map kindM 5)).drew a6
  clear hkA
  go_region_held3 (fun w' => w'.cell? ⟨w.heap.size, 0, none⟩ = some (.int .i64 e.kind) ∧ w'.cell? ⟨w.heap.size, 1, none⟩ = some (.string e.name) ∧ w'.cell? ⟨w.heap.size, 2, none⟩ = some (.int .i64 e.val.kind) ∧ w'.cell? ⟨w.heap.size, 3, none⟩ = some (.int .i64 e.val.n) ∧ w'.cell? ⟨w.heap.size, 4, none⟩ = some (.float .f64 e.val.f) ∧ w'.cell? ⟨w.heap.size, 5, none⟩ = some (.string e.val.s) ∧ w'.cell? ⟨w.heap.size, 6, none⟩ = some (.slice A e.kids.length c))
    (first | go_keep | exact ⟨cell_kept hb2 b0, cell_kept hb2 b1, cell_kept hb2 b2, cell_kept hb2 b3, cell_kept hb2 b4, cell_kept hb2 b5, cell_kept hb2 b6⟩ | exact ⟨b0, b1, b2, b3, b4, b5, b6⟩)
    (first | (go_at_call 38; refine (kinds_calls _).mono ?_; rintro e2 w2 ⟨rfl, rfl⟩) | ((with_reducible refine (hHK.out _ hbM).mono ?_); rintro e2 w2 ⟨rfl, hb2⟩; have hb3 := below_trans hbN hb2))
  all_goals (go_wp2; go_ret; exact ⟨rfl, hb3⟩)

theorem eg1 : ∀ (args : Array Value) (w : World), (callFunc 45 args).run Try.prog w = .ok (.enter 45 args) w := enters Try.func45 rfl rfl
theorem eg2 : ∀ (args : Array Value) (w : World), (callFunc 47 args).run Try.prog w = .ok (.enter 47 args) w := enters Try.func47 rfl rfl
theorem eg3 : ∀ (args : Array Value) (w : World), (callFunc 48 args).run Try.prog w = .ok (.enter 48 args) w := enters Try.func48 rfl rfl
theorem eg4 : ∀ (args : Array Value) (w : World), (callFunc 49 args).run Try.prog w = .ok (.enter 49 args) w := enters Try.func49 rfl rfl
theorem eg5 : ∀ (args : Array Value) (w : World), (callFunc 50 args).run Try.prog w = .ok (.enter 50 args) w := enters Try.func50 rfl rfl

set_option maxHeartbeats 400000 in
set_option maxRecDepth 100000 in
theorem kind1_calls {w0 : World} {S S' : Nat → Prop} {e : E} {cs : List Value} (h : RE S w0 e cs) {l : List ByteArray} {A : Option Addr} {c : Nat} (hs : SL S' w0 l A c) (w : World) (hb : Below w0.heap.size w0 w) :
    Calls Try.prog 45 #[.slice A l.length c, .agg cs.toArray] w (RBool (l.any (sameS e.name)) w) := by
  obtain ⟨A', c', css, f, hl⟩ := h.open_
  have k1 := (cell_new w cs 28 (0, 0) 1).trans f.c1
  have hb1 : Below w.heap.size w (w.alloc (.cells cs.toArray 28)) := below_new (Below.refl _ _) _
  have H := Lib.hid (containsS_calls hs e.name _ (below_trans hb hb1))
  clear h f hl hs
  go_enter Try.func45, Try.ntmps45
  go_wp2_with (go_at_call 46; refine H.out.mono ?_; rintro e2 w2 ⟨rfl, hb2⟩; have hb3 := below_trans hb1 hb2)
  go_ret
  exact ⟨rfl, hb3⟩

set_option maxHeartbeats 400000 in
set_option maxRecDepth 100000 in
theorem kind2_calls {cs : List Value} {l : List ByteArray} {A : Option Addr} {c : Nat} (_hbig : l.length ≤ 281474976710656) (w : World) :
    Calls Try.prog 47 #[.slice A l.length c, .agg cs.toArray] w (RBool (decide (0 < l.length)) w) := by
  have hb1 : Below w.heap.size w (w.alloc (.cells cs.toArray 28)) := below_new (Below.refl _ _) _
  generalize l.length = n at *
  go_enter Try.func47, Try.ntmps47
  go_wp2
  go_ret
  exact ⟨ret_bool (by simp), hb1⟩

set_option maxHeartbeats 400000 in
set_option maxRecDepth 100000 in
theorem kind3_calls {w0 : World} {S : Nat → Prop} {e : E} {cs : List Value} (h : RE S w0 e cs) (v : Value) (b : Bool) (h0 : 0 < e.kids.length) (H : ∀ cs', RE S w0 (kidE e 0) cs' → ∀ w, Below w0.heap.size w0 w → Calls Try.prog 29 #[v, .agg cs'.toArray] w (RBool b w))
    (w : World) (hb : Below w0.heap.size w0 w) : Calls Try.prog 48 #[v, .agg cs.toArray] w (RBool (!b) w) := by
  obtain ⟨A, c, css, f, hl⟩ := h.open_
  have hbig := hl.big
  have k6 := (cell_new w cs 28 (0, 0) 6).trans f.c6
  have hb1 : Below w.heap.size w (w.alloc (.cells cs.toArray 28)) := below_new (Below.refl _ _) _
  obtain ⟨q, ad, hq, rfl, hr, -, -⟩ := hl.at_ h0
  obtain ⟨q', ad', -, he, -, hcell, hlenk⟩ := (hl.mono (below_trans hb hb1)).at_ h0
  obtain rfl : ad = ad' := by simpa using he
  have hk : kidE e 0 = q := by unfold kidE; rw [hq]; rfl
  rw [hk] at H
  have HH := Lib.hid (H _ hr _ (below_trans hb hb1))
  clear h f hl hr H hq hk he
  generalize e.kids.length = n at *
  go_enter Try.func48, Try.ntmps48
  go_wp2_with (first | (refine load_cells rfl 28 _ rfl _ rfl (css 0) hcell _ Try.underlying28 rfl 7 (by kernel_rfl) hlenk ?_) | (go_at_call 29; refine HH.out.mono ?_; rintro e2 w2 ⟨rfl, hb2⟩; have hb3 := below_trans hb1 hb2))
  go_ret
  exact ⟨ret_bool rfl, hb3⟩
end Go.Proofs.Ytljkfobgbjnilaa
