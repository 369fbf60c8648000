/- Walks: slices.Repeat of one pattern. -/
import Derived.Test.YtjhkehloipmjfaaWH
import Derived.Test.YtjhkehloipmjfaaVA
namespace Go.Proofs.Ytjhkehloipmjfaa
open Go.RowKit
end Go.Proofs.Ytjhkehloipmjfaa
/- Walks: patterns made normal, by the program. -/
namespace Go.Proofs.Ytjhkehloipmjfaa
open Go.RowKit
theorem opens_len (k : Int) (l : List Pt) : (l.flatMap (openP k)).length ≤ (l.map nodesP).sum :=
  Nat.le_trans (length_le_sum nodesP _ fun x _ => nodesP_pos x) (nodes_opens k l)
theorem map_next {α β : Type} {f : α → β} {l : List α} {q : α} {i : Nat} (hq : l[i]? = some q) : (l.take (i + 1)).map f = (l.take i).map f ++ [f q] := by
  rw [List.take_add_one, hq, Option.toList_some, List.map_append, List.map_singleton]
theorem sum_normal {p : Pt} (h : rightP p = true) (hk : p.kind = 3 ∨ p.kind = 4) : ((p.kids.map normal).map nodesP).sum ≤ 2 * sizeN p := by
  rw [List.map_map]
  refine Nat.le_trans (sum_le _ (fun k => 2 * sizeN k) p.kids fun k hk => by have := nodes_normal k (right_kids h k hk); simp only [Function.comp]; omega) ?_
  rw [sizeN_group (by omega)]
  have h7 : ∀ l : List Pt, (l.map fun k => 2 * sizeN k).sum = 2 * (l.map sizeN).sum := fun l => by
    induction l with
    | nil => rfl
    | cons x l ih => simp only [List.map_cons, List.sum_cons, ih]; omega
  rw [h7]; omega
theorem sum_quant {p b : Pt} (h1 : 0 ≤ p.min) (h2 : p.min ≤ 20) (h3 : p.max = -1 ∨ (1 ≤ p.max ∧ p.min ≤ p.max ∧ p.max ≤ 20)) : ((List.replicate p.min.toNat b ++ moreP p b).map nodesP).sum ≤ 21 * (nodesP b + 2) := by
  rw [List.map_append, List.sum_append, List.map_replicate, sum_replicate]
  refine Nat.le_trans (nodes_more (p := p) b h1 h3) (Nat.mul_le_mul_right _ ?_)
  unfold timesP; split <;> omega
end Go.Proofs.Ytjhkehloipmjfaa
