/- Patterns as cells. -/
import Derived.Test.YtgdgcloenhnbiaaWY
import Derived.Test.YtgdgcloenhnbiaaN0
namespace Go.Proofs.Ytgdgcloenhnbiaa
open Go.RowKit
mutual
def encP : Pt → List D
  | ⟨k, v, d, l, w, mn, mx, ks⟩ => [.v (.int .i64 k), .v (.string v), .v (.int .i64 d), .v (.int .i64 l.kind), .v (.string l.name), .v (.int .i64 l.val.kind), .v (.int .i64 l.val.n), .v (.float .f64 l.val.f), .v (.string l.val.s), .sl (l.kids.map encE),
      .v (.int .i64 w.kind), .v (.string w.name), .v (.int .i64 w.val.kind), .v (.int .i64 w.val.n), .v (.float .f64 w.val.f), .v (.string w.val.s), .sl (w.kids.map encE), .v (.int .i64 mn), .v (.int .i64 mx), .sl (encPs ks)]
def encPs : List Pt → List (List D)
  | [] => []
  | p :: l => encP p :: encPs l
end
theorem encPs_map (l : List Pt) : encPs l = l.map encP := by
  induction l with
  | nil => rfl
  | cons e l ih => rw [encPs, ih, List.map_cons]
theorem encP_eq (p : Pt) : encP p = [.v (.int .i64 p.kind), .v (.string p.var), .v (.int .i64 p.dir), .v (.int .i64 p.label.kind), .v (.string p.label.name), .v (.int .i64 p.label.val.kind), .v (.int .i64 p.label.val.n), .v (.float .f64 p.label.val.f), .v (.string p.label.val.s), .sl (p.label.kids.map encE),
      .v (.int .i64 p.wher.kind), .v (.string p.wher.name), .v (.int .i64 p.wher.val.kind), .v (.int .i64 p.wher.val.n), .v (.float .f64 p.wher.val.f), .v (.string p.wher.val.s), .sl (p.wher.kids.map encE), .v (.int .i64 p.min), .v (.int .i64 p.max), .sl (p.kids.map encP)] := by
  cases p with | mk k v d l w mn mx ks => rw [encP, encPs_map]
theorem encP_len (p : Pt) : (encP p).length = 20 := by rw [encP_eq]; rfl
theorem sized_P (l : List Pt) : sized 20 (l.map encP) = true := by
  simp [sized, encP_len]
theorem part_label {i : TyI} (p : Pt) (ha : i.agg = true := by rfl) (hs : i.size = 7 := by rfl) : loadA i (encP p) 3 = some (.dat (encE p.label)) := by
  rw [encP_eq, encE_eq]; unfold loadA; rw [if_pos ha, hs]; rfl
theorem part_wher {i : TyI} (p : Pt) (ha : i.agg = true := by rfl) (hs : i.size = 7 := by rfl) : loadA i (encP p) 10 = some (.dat (encE p.wher)) := by
  rw [encP_eq, encE_eq]; unfold loadA; rw [if_pos ha, hs]; rfl
theorem part_label' {i : TyI} (p : Pt) (ha : i.agg = true := by rfl) (hs : i.size = 7 := by rfl) : loadA i ((encP p).drop 3) 0 = some (.dat (encE p.label)) := by
  rw [encP_eq, encE_eq]; unfold loadA; rw [if_pos ha, hs]; rfl
theorem part_wher' {i : TyI} (p : Pt) (ha : i.agg = true := by rfl) (hs : i.size = 7 := by rfl) : loadA i ((encP p).drop 10) 0 = some (.dat (encE p.wher)) := by
  rw [encP_eq, encE_eq]; unfold loadA; rw [if_pos ha, hs]; rfl
theorem set_kids (p : Pt) (l : List Pt) : (encP p).set 19 (.sl (l.map encP)) = encP { p with kids := l } := by rw [encP_eq, encP_eq]; rfl
theorem dat_eq {a b : List D} (h : a = b) : VV.dat a = VV.dat b := by rw [h]
theorem encP_zero : encP zPt = [.v (.int .i64 0), .v (.string ⟨#[]⟩), .v (.int .i64 0), .v (.int .i64 0), .v (.string ⟨#[]⟩), .v (.int .i64 0), .v (.int .i64 0), .v (.float .f64 0), .v (.string ⟨#[]⟩), .sl [],
      .v (.int .i64 0), .v (.string ⟨#[]⟩), .v (.int .i64 0), .v (.int .i64 0), .v (.float .f64 0), .v (.string ⟨#[]⟩), .sl [], .v (.int .i64 0), .v (.int .i64 0), .sl []] := by rw [encP_eq]; rfl
end Go.Proofs.Ytgdgcloenhnbiaa
