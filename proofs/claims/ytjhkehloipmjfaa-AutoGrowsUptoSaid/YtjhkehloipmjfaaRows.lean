/-
  NARROWER THAN 'FOR EVERY INPUT', by the rows' own cells (each row's printed sentence says how): ExprOrder: loops · ExprErrors: loops · ExprHolds: loops · ExprProps: loops · ExprNots: loops · AutoBuilds: loops · AutoSizes: loops · AutoGrows: loops.
  DERIVED. THE GIVEN ROWS OF THIS SEAT. 8 by the template 'for every input the law returns true; each argument reads behind the call as it read before'; 0 by the template 'total and deterministic' (their statements: YtjhkehloipmjfaaTotals.lean).
  GIVEN WITH THE SEED: the statements are not yours to turn. If you find one false, say at which input.
  Laid BY PROGRAM, IN A SANDBOX (cutbox-rows.mjs): the forced cells as the released guide's own fill.sh prints them over the translation 5dc695c8e4e18946… (all of the seat's roots in one cut). By AI agents, Wed Nov 11 2026. No macro, syntax, notation, axiom, sorry.
-/
import Derived.Test.YtjhkehloipmjfaaChecked
import GoSem.Claim
import GoSem.ClaimJoined
import GoSem.ClaimMapViews
import Derived.JoinedTies
import Derived.KernelRfl
namespace Go.Proofs.Ytjhkehloipmjfaa
/- THE CELL 'sum', in the pinned program and in every row, IS THE sha256 OF THE DUMP (.gsa) THAT YtjhkehloipmjfaaProg.lean LOADS. Nothing in Lean hashes anything: it is a label: what it is worth is what the hold of that sum in a sandbox is worth. -/
noncomputable def Try.pinned : Pinned := { name := "ytjhkehloipmjfaa", sum := "5dc695c8e4e1894605c8d4f40f9b4572a8ed33ffb2a747b90c28993bbbcfba4b", checked := Try.checked }
namespace Rows
def none {H : Type} : Left H := { results := [], args := [] }

/-- 'bridlewaylaw05.ExprOrder': WHATEVER THE INPUT: true; the input reads as it did. -/
def exprOrderSpec : ChangeSpec := { name := "exprOrder", fn := fun _ => fun
  | [d1, d2] => { results := [.lit (.bool true)], args := [d1, d2] }
  | _ => none }
def exprOrderRow : OpenClaim := { program := "ytjhkehloipmjfaa", sum := "5dc695c8e4e1894605c8d4f40f9b4572a8ed33ffb2a747b90c28993bbbcfba4b", func := "bridleway/bridlewaylaw05.ExprOrder", spec := "exprOrder", inPlace := ["math.Float64frombits", "math.Float64bits", "math.archFloor", "math.archTrunc"], unfollowed := true, recurses := true, loops := true, apart := false }
def ExprOrderSaid : Prop := exprOrderRow.holds Try.pinned (OpenSpec.ofChange exprOrderSpec)

/-- ITS FALSE NEIGHBOUR: 'it returns false'. Refute it at one input. -/
def exprOrderWrong : ChangeSpec := { name := "exprOrder", fn := fun _ => fun
  | [d1, d2] => { results := [.lit (.bool false)], args := [d1, d2] }
  | _ => none }
def ExprOrderWrongFalsely : Prop := exprOrderRow.holds Try.pinned (OpenSpec.ofChange exprOrderWrong)

/-- 'bridlewaylaw05.ExprErrors': WHATEVER THE INPUT: true; the input reads as it did. -/
def exprErrorsSpec : ChangeSpec := { name := "exprErrors", fn := fun _ => fun
  | [d1, d2, d3] => { results := [.lit (.bool true)], args := [d1, d2, d3] }
  | _ => none }
def exprErrorsRow : OpenClaim := { program := "ytjhkehloipmjfaa", sum := "5dc695c8e4e1894605c8d4f40f9b4572a8ed33ffb2a747b90c28993bbbcfba4b", func := "bridleway/bridlewaylaw05.ExprErrors", spec := "exprErrors", inPlace := ["math.Float64frombits", "math.Float64bits", "math.archFloor", "math.archTrunc"], unfollowed := true, recurses := true, loops := true, apart := false }
def ExprErrorsSaid : Prop := exprErrorsRow.holds Try.pinned (OpenSpec.ofChange exprErrorsSpec)

/-- ITS FALSE NEIGHBOUR: 'it returns false'. Refute it at one input. -/
def exprErrorsWrong : ChangeSpec := { name := "exprErrors", fn := fun _ => fun
  | [d1, d2, d3] => { results := [.lit (.bool false)], args := [d1, d2, d3] }
  | _ => none }
def ExprErrorsWrongFalsely : Prop := exprErrorsRow.holds Try.pinned (OpenSpec.ofChange exprErrorsWrong)

/-- 'bridlewaylaw05.ExprHolds': WHATEVER THE INPUT: true; the input reads as it did. -/
def exprHoldsSpec : ChangeSpec := { name := "exprHolds", fn := fun _ => fun
  | [d1, d2] => { results := [.lit (.bool true)], args := [d1, d2] }
  | _ => none }
def exprHoldsRow : OpenClaim := { program := "ytjhkehloipmjfaa", sum := "5dc695c8e4e1894605c8d4f40f9b4572a8ed33ffb2a747b90c28993bbbcfba4b", func := "bridleway/bridlewaylaw05.ExprHolds", spec := "exprHolds", inPlace := ["math.Float64frombits", "math.Float64bits", "math.archFloor", "math.archTrunc"], unfollowed := true, recurses := true, loops := true, apart := false }
def ExprHoldsSaid : Prop := exprHoldsRow.holds Try.pinned (OpenSpec.ofChange exprHoldsSpec)

/-- ITS FALSE NEIGHBOUR: 'it returns false'. Refute it at one input. -/
def exprHoldsWrong : ChangeSpec := { name := "exprHolds", fn := fun _ => fun
  | [d1, d2] => { results := [.lit (.bool false)], args := [d1, d2] }
  | _ => none }
def ExprHoldsWrongFalsely : Prop := exprHoldsRow.holds Try.pinned (OpenSpec.ofChange exprHoldsWrong)

/-- 'bridlewaylaw05.ExprProps': WHATEVER THE INPUT: true; the input reads as it did. -/
def exprPropsSpec : ChangeSpec := { name := "exprProps", fn := fun _ => fun
  | [d1, d2, d3, d4] => { results := [.lit (.bool true)], args := [d1, d2, d3, d4] }
  | _ => none }
def exprPropsRow : OpenClaim := { program := "ytjhkehloipmjfaa", sum := "5dc695c8e4e1894605c8d4f40f9b4572a8ed33ffb2a747b90c28993bbbcfba4b", func := "bridleway/bridlewaylaw05.ExprProps", spec := "exprProps", inPlace := ["math.Float64frombits", "math.Float64bits", "math.archFloor", "math.archTrunc"], unfollowed := true, recurses := true, loops := true, apart := false }
def ExprPropsSaid : Prop := exprPropsRow.holds Try.pinned (OpenSpec.ofChange exprPropsSpec)

/-- ITS FALSE NEIGHBOUR: 'it returns false'. Refute it at one input. -/
def exprPropsWrong : ChangeSpec := { name := "exprProps", fn := fun _ => fun
  | [d1, d2, d3, d4] => { results := [.lit (.bool false)], args := [d1, d2, d3, d4] }
  | _ => none }
def ExprPropsWrongFalsely : Prop := exprPropsRow.holds Try.pinned (OpenSpec.ofChange exprPropsWrong)

/-- 'bridlewaylaw05.ExprNots': WHATEVER THE INPUT: true; the input reads as it did. -/
def exprNotsSpec : ChangeSpec := { name := "exprNots", fn := fun _ => fun
  | [d1, d2, d3] => { results := [.lit (.bool true)], args := [d1, d2, d3] }
  | _ => none }
def exprNotsRow : OpenClaim := { program := "ytjhkehloipmjfaa", sum := "5dc695c8e4e1894605c8d4f40f9b4572a8ed33ffb2a747b90c28993bbbcfba4b", func := "bridleway/bridlewaylaw05.ExprNots", spec := "exprNots", inPlace := ["math.Float64frombits", "math.Float64bits", "math.archFloor", "math.archTrunc"], unfollowed := true, recurses := true, loops := true, apart := false }
def ExprNotsSaid : Prop := exprNotsRow.holds Try.pinned (OpenSpec.ofChange exprNotsSpec)

/-- ITS FALSE NEIGHBOUR: 'it returns false'. Refute it at one input. -/
def exprNotsWrong : ChangeSpec := { name := "exprNots", fn := fun _ => fun
  | [d1, d2, d3] => { results := [.lit (.bool false)], args := [d1, d2, d3] }
  | _ => none }
def ExprNotsWrongFalsely : Prop := exprNotsRow.holds Try.pinned (OpenSpec.ofChange exprNotsWrong)

/-- 'bridlewaylaw16.AutoBuilds': WHATEVER THE INPUT: true; the input reads as it did. -/
def autoBuildsSpec : ChangeSpec := { name := "autoBuilds", fn := fun _ => fun
  | [d] => { results := [.lit (.bool true)], args := [d] }
  | _ => none }
def autoBuildsRow : OpenClaim := { program := "ytjhkehloipmjfaa", sum := "5dc695c8e4e1894605c8d4f40f9b4572a8ed33ffb2a747b90c28993bbbcfba4b", func := "bridleway/bridlewaylaw16.AutoBuilds", spec := "autoBuilds", inPlace := ["math.Float64frombits", "math.Float64bits"], unfollowed := true, recurses := true, loops := true, apart := false }
def AutoBuildsSaid : Prop := autoBuildsRow.holds Try.pinned (OpenSpec.ofChange autoBuildsSpec)

/-- ITS FALSE NEIGHBOUR: 'it returns false'. Refute it at one input. -/
def autoBuildsWrong : ChangeSpec := { name := "autoBuilds", fn := fun _ => fun
  | [d] => { results := [.lit (.bool false)], args := [d] }
  | _ => none }
def AutoBuildsWrongFalsely : Prop := autoBuildsRow.holds Try.pinned (OpenSpec.ofChange autoBuildsWrong)

/-- 'bridlewaylaw16.AutoSizes': WHATEVER THE INPUT: true; the input reads as it did. -/
def autoSizesSpec : ChangeSpec := { name := "autoSizes", fn := fun _ => fun
  | [d] => { results := [.lit (.bool true)], args := [d] }
  | _ => none }
def autoSizesRow : OpenClaim := { program := "ytjhkehloipmjfaa", sum := "5dc695c8e4e1894605c8d4f40f9b4572a8ed33ffb2a747b90c28993bbbcfba4b", func := "bridleway/bridlewaylaw16.AutoSizes", spec := "autoSizes", inPlace := ["math.Float64frombits", "math.Float64bits"], unfollowed := true, recurses := true, loops := true, apart := false }
def AutoSizesSaid : Prop := autoSizesRow.holds Try.pinned (OpenSpec.ofChange autoSizesSpec)

/-- ITS FALSE NEIGHBOUR: 'it returns false'. Refute it at one input. -/
def autoSizesWrong : ChangeSpec := { name := "autoSizes", fn := fun _ => fun
  | [d] => { results := [.lit (.bool false)], args := [d] }
  | _ => none }
def AutoSizesWrongFalsely : Prop := autoSizesRow.holds Try.pinned (OpenSpec.ofChange autoSizesWrong)

/-- 'bridlewaylaw16.AutoGrows': WHATEVER THE INPUT: true; the input reads as it did. -/
def autoGrowsSpec : ChangeSpec := { name := "autoGrows", fn := fun _ => fun
  | [d1, d2, d3, d4, d5, d6] => { results := [.lit (.bool true)], args := [d1, d2, d3, d4, d5, d6] }
  | _ => none }
def autoGrowsRow : OpenClaim := { program := "ytjhkehloipmjfaa", sum := "5dc695c8e4e1894605c8d4f40f9b4572a8ed33ffb2a747b90c28993bbbcfba4b", func := "bridleway/bridlewaylaw16.AutoGrows", spec := "autoGrows", inPlace := ["math.Float64frombits", "math.Float64bits"], unfollowed := true, recurses := true, loops := true, apart := false }
def AutoGrowsSaid : Prop := autoGrowsRow.holds Try.pinned (OpenSpec.ofChange autoGrowsSpec)

/-- ITS FALSE NEIGHBOUR: 'it returns false'. Refute it at one input. -/
def autoGrowsWrong : ChangeSpec := { name := "autoGrows", fn := fun _ => fun
  | [d1, d2, d3, d4, d5, d6] => { results := [.lit (.bool false)], args := [d1, d2, d3, d4, d5, d6] }
  | _ => none }
def AutoGrowsWrongFalsely : Prop := autoGrowsRow.holds Try.pinned (OpenSpec.ofChange autoGrowsWrong)

/- THE SECOND FORM. 'bulk': how many values and letters a reading holds, each counted each time it is reached (what is shared counts as often as it is met; a slice's spare places count too). A statement '..UptoSaid' is the law's where the arguments, and the package variables that the reading takes, are together of bulk at most 1048576: NARROWER than '..Said'. Prove '..Said' where nothing that the law and all that it calls make is longer than what came in: it says more and counts as full. Else prove '..UptoSaid'. A law counts once. -/
mutual
def uptoBulk {H : Type} : DataW H → Nat
  | .lit (.string bytes) => bytes.length + 1
  | .lit _ => 1
  | .nil => 1
  | .ptr d => uptoBulk d + 1
  | .slice elems spare => uptoBulkAll elems + uptoBulkAll spare + 1
  | .agg parts => uptoBulkAll parts + 1
  | .iface _ d => uptoBulk d + 1
  | .map entries => uptoBulkEntries entries + 1
  | .held _ => 1
def uptoBulkAll {H : Type} : List (DataW H) → Nat
  | [] => 0
  | d :: r => uptoBulk d + uptoBulkAll r
def uptoBulkEntries {H : Type} : List (Lit × DataW H) → Nat
  | [] => 0
  | x :: r => uptoBulkEntry x + uptoBulkEntries r
def uptoBulkEntry {H : Type} : Lit × DataW H → Nat
  | (.string bytes, d) => bytes.length + uptoBulk d + 1
  | (_, d) => uptoBulk d + 1
 end
def uptoSmall : (H : Type) → List (DataW H) → Bool := fun _ ds => decide (uptoBulkAll ds ≤ 1048576)
def OpenSpec.upto (s : _root_.Go.ChangeSpec) : _root_.Go.OpenSpec := { _root_.Go.OpenSpec.ofChange s with cond := some uptoSmall }

/-- 'bridlewaylaw05.ExprOrder', WHERE WHAT IT READS IS OF BULK AT MOST 1048576: true; the input reads as it did. -/
def exprOrderUptoRow : OpenClaim := { program := "ytjhkehloipmjfaa", sum := "5dc695c8e4e1894605c8d4f40f9b4572a8ed33ffb2a747b90c28993bbbcfba4b", func := "bridleway/bridlewaylaw05.ExprOrder", spec := "exprOrder", inPlace := ["math.Float64frombits", "math.Float64bits", "math.archFloor", "math.archTrunc"], unfollowed := true, recurses := true, loops := true, apart := false, narrowed := true }
def ExprOrderUptoSaid : Prop := exprOrderUptoRow.holds Try.pinned (OpenSpec.upto exprOrderSpec)

/-- 'bridlewaylaw05.ExprErrors', WHERE WHAT IT READS IS OF BULK AT MOST 1048576: true; the input reads as it did. -/
def exprErrorsUptoRow : OpenClaim := { program := "ytjhkehloipmjfaa", sum := "5dc695c8e4e1894605c8d4f40f9b4572a8ed33ffb2a747b90c28993bbbcfba4b", func := "bridleway/bridlewaylaw05.ExprErrors", spec := "exprErrors", inPlace := ["math.Float64frombits", "math.Float64bits", "math.archFloor", "math.archTrunc"], unfollowed := true, recurses := true, loops := true, apart := false, narrowed := true }
def ExprErrorsUptoSaid : Prop := exprErrorsUptoRow.holds Try.pinned (OpenSpec.upto exprErrorsSpec)

/-- 'bridlewaylaw05.ExprHolds', WHERE WHAT IT READS IS OF BULK AT MOST 1048576: true; the input reads as it did. -/
def exprHoldsUptoRow : OpenClaim := { program := "ytjhkehloipmjfaa", sum := "5dc695c8e4e1894605c8d4f40f9b4572a8ed33ffb2a747b90c28993bbbcfba4b", func := "bridleway/bridlewaylaw05.ExprHolds", spec := "exprHolds", inPlace := ["math.Float64frombits", "math.Float64bits", "math.archFloor", "math.archTrunc"], unfollowed := true, recurses := true, loops := true, apart := false, narrowed := true }
def ExprHoldsUptoSaid : Prop := exprHoldsUptoRow.holds Try.pinned (OpenSpec.upto exprHoldsSpec)

/-- 'bridlewaylaw05.ExprProps', WHERE WHAT IT READS IS OF BULK AT MOST 1048576: true; the input reads as it did. -/
def exprPropsUptoRow : OpenClaim := { program := "ytjhkehloipmjfaa", sum := "5dc695c8e4e1894605c8d4f40f9b4572a8ed33ffb2a747b90c28993bbbcfba4b", func := "bridleway/bridlewaylaw05.ExprProps", spec := "exprProps", inPlace := ["math.Float64frombits", "math.Float64bits", "math.archFloor", "math.archTrunc"], unfollowed := true, recurses := true, loops := true, apart := false, narrowed := true }
def ExprPropsUptoSaid : Prop := exprPropsUptoRow.holds Try.pinned (OpenSpec.upto exprPropsSpec)

/-- 'bridlewaylaw05.ExprNots', WHERE WHAT IT READS IS OF BULK AT MOST 1048576: true; the input reads as it did. -/
def exprNotsUptoRow : OpenClaim := { program := "ytjhkehloipmjfaa", sum := "5dc695c8e4e1894605c8d4f40f9b4572a8ed33ffb2a747b90c28993bbbcfba4b", func := "bridleway/bridlewaylaw05.ExprNots", spec := "exprNots", inPlace := ["math.Float64frombits", "math.Float64bits", "math.archFloor", "math.archTrunc"], unfollowed := true, recurses := true, loops := true, apart := false, narrowed := true }
def ExprNotsUptoSaid : Prop := exprNotsUptoRow.holds Try.pinned (OpenSpec.upto exprNotsSpec)

/-- 'bridlewaylaw16.AutoBuilds', WHERE WHAT IT READS IS OF BULK AT MOST 1048576: true; the input reads as it did. -/
def autoBuildsUptoRow : OpenClaim := { program := "ytjhkehloipmjfaa", sum := "5dc695c8e4e1894605c8d4f40f9b4572a8ed33ffb2a747b90c28993bbbcfba4b", func := "bridleway/bridlewaylaw16.AutoBuilds", spec := "autoBuilds", inPlace := ["math.Float64frombits", "math.Float64bits"], unfollowed := true, recurses := true, loops := true, apart := false, narrowed := true }
def AutoBuildsUptoSaid : Prop := autoBuildsUptoRow.holds Try.pinned (OpenSpec.upto autoBuildsSpec)

/-- 'bridlewaylaw16.AutoSizes', WHERE WHAT IT READS IS OF BULK AT MOST 1048576: true; the input reads as it did. -/
def autoSizesUptoRow : OpenClaim := { program := "ytjhkehloipmjfaa", sum := "5dc695c8e4e1894605c8d4f40f9b4572a8ed33ffb2a747b90c28993bbbcfba4b", func := "bridleway/bridlewaylaw16.AutoSizes", spec := "autoSizes", inPlace := ["math.Float64frombits", "math.Float64bits"], unfollowed := true, recurses := true, loops := true, apart := false, narrowed := true }
def AutoSizesUptoSaid : Prop := autoSizesUptoRow.holds Try.pinned (OpenSpec.upto autoSizesSpec)

/-- 'bridlewaylaw16.AutoGrows', WHERE WHAT IT READS IS OF BULK AT MOST 1048576: true; the input reads as it did. -/
def autoGrowsUptoRow : OpenClaim := { program := "ytjhkehloipmjfaa", sum := "5dc695c8e4e1894605c8d4f40f9b4572a8ed33ffb2a747b90c28993bbbcfba4b", func := "bridleway/bridlewaylaw16.AutoGrows", spec := "autoGrows", inPlace := ["math.Float64frombits", "math.Float64bits"], unfollowed := true, recurses := true, loops := true, apart := false, narrowed := true }
def AutoGrowsUptoSaid : Prop := autoGrowsUptoRow.holds Try.pinned (OpenSpec.upto autoGrowsSpec)

end Rows
end Go.Proofs.Ytjhkehloipmjfaa
