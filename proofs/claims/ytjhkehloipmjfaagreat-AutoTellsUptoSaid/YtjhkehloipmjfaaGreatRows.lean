/-
  NARROWER THAN 'FOR EVERY INPUT', by the rows' own cells (each row's printed sentence says how): AutoSets: loops · AutoTells: loops · AutoTurned: loops · AutoRuns: loops.
  DERIVED. THE GIVEN ROWS OF THIS SEAT. 4 by the template 'for every input the law returns true; each argument reads behind the call as it read before'; 0 by the template 'total and deterministic' (their statements: YtjhkehloipmjfaaGreatTotals.lean).
  GIVEN WITH THE SEED: the statements are not yours to turn. If you find one false, say at which input.
  Laid BY PROGRAM, IN A SANDBOX (cutbox-rows.mjs): the forced cells as the released guide's own fill.sh prints them over the translation 8d2af8486433594c… (all of the seat's roots in one cut). By AI agents, Wed Nov 11 2026. No macro, syntax, notation, axiom, sorry.
-/
import Derived.Test.YtjhkehloipmjfaaGreatChecked
import GoSem.Claim
import GoSem.ClaimJoined
import GoSem.ClaimMapViews
import Derived.JoinedTies
import Derived.KernelRfl
namespace Go.Proofs.YtjhkehloipmjfaaGreat
/- THE CELL 'sum', in the pinned program and in every row, IS THE sha256 OF THE DUMP (.gsa) THAT YtjhkehloipmjfaaGreatProg.lean LOADS. Nothing in Lean hashes anything: it is a label: what it is worth is what the hold of that sum in a sandbox is worth. -/
noncomputable def Tryz.pinned : Pinned := { name := "ytjhkehloipmjfaagreat", sum := "8d2af8486433594c9c9dd27dfa00b344f2087423f210f59cc92fb136853c3809", checked := Tryz.checked }
namespace Rows
def none {H : Type} : Left H := { results := [], args := [] }

/-- 'bridlewaylaw16.AutoSets': WHATEVER THE INPUT: true; the input reads as it did. -/
def autoSetsSpec : ChangeSpec := { name := "autoSets", fn := fun _ => fun
  | [d1, d2, d3, d4, d5, d6] => { results := [.lit (.bool true)], args := [d1, d2, d3, d4, d5, d6] }
  | _ => none }
def autoSetsRow : OpenClaim := { program := "ytjhkehloipmjfaagreat", sum := "8d2af8486433594c9c9dd27dfa00b344f2087423f210f59cc92fb136853c3809", func := "bridleway/bridlewaylaw16.AutoSets", spec := "autoSets", inPlace := ["math.Float64frombits", "math.Float64bits"], unfollowed := true, recurses := true, loops := true, plainKeys := false, apart := false }
def AutoSetsSaid : Prop := autoSetsRow.holds Tryz.pinned (OpenSpec.ofChange autoSetsSpec)

/-- ITS FALSE NEIGHBOUR: 'it returns false'. Refute it at one input. -/
def autoSetsWrong : ChangeSpec := { name := "autoSets", fn := fun _ => fun
  | [d1, d2, d3, d4, d5, d6] => { results := [.lit (.bool false)], args := [d1, d2, d3, d4, d5, d6] }
  | _ => none }
def AutoSetsWrongFalsely : Prop := autoSetsRow.holds Tryz.pinned (OpenSpec.ofChange autoSetsWrong)

/-- 'bridlewaylaw16.AutoTells': WHATEVER THE INPUT: true; the input reads as it did. -/
def autoTellsSpec : ChangeSpec := { name := "autoTells", fn := fun _ => fun
  | [d1, d2, d3, d4] => { results := [.lit (.bool true)], args := [d1, d2, d3, d4] }
  | _ => none }
def autoTellsRow : OpenClaim := { program := "ytjhkehloipmjfaagreat", sum := "8d2af8486433594c9c9dd27dfa00b344f2087423f210f59cc92fb136853c3809", func := "bridleway/bridlewaylaw16.AutoTells", spec := "autoTells", inPlace := ["math.Float64frombits", "math.Float64bits"], unfollowed := true, recurses := true, loops := true, plainKeys := false, apart := false }
def AutoTellsSaid : Prop := autoTellsRow.holds Tryz.pinned (OpenSpec.ofChange autoTellsSpec)

/-- ITS FALSE NEIGHBOUR: 'it returns false'. Refute it at one input. -/
def autoTellsWrong : ChangeSpec := { name := "autoTells", fn := fun _ => fun
  | [d1, d2, d3, d4] => { results := [.lit (.bool false)], args := [d1, d2, d3, d4] }
  | _ => none }
def AutoTellsWrongFalsely : Prop := autoTellsRow.holds Tryz.pinned (OpenSpec.ofChange autoTellsWrong)

/-- 'bridlewaylaw16.AutoTurned': WHATEVER THE INPUT: true; the input reads as it did. -/
def autoTurnedSpec : ChangeSpec := { name := "autoTurned", fn := fun _ => fun
  | [d1, d2, d3, d4] => { results := [.lit (.bool true)], args := [d1, d2, d3, d4] }
  | _ => none }
def autoTurnedRow : OpenClaim := { program := "ytjhkehloipmjfaagreat", sum := "8d2af8486433594c9c9dd27dfa00b344f2087423f210f59cc92fb136853c3809", func := "bridleway/bridlewaylaw16.AutoTurned", spec := "autoTurned", inPlace := ["math.Float64frombits", "math.Float64bits", "math.archFloor", "math.archTrunc"], unfollowed := true, recurses := true, loops := true, plainKeys := false, apart := false }
def AutoTurnedSaid : Prop := autoTurnedRow.holds Tryz.pinned (OpenSpec.ofChange autoTurnedSpec)

/-- ITS FALSE NEIGHBOUR: 'it returns false'. Refute it at one input. -/
def autoTurnedWrong : ChangeSpec := { name := "autoTurned", fn := fun _ => fun
  | [d1, d2, d3, d4] => { results := [.lit (.bool false)], args := [d1, d2, d3, d4] }
  | _ => none }
def AutoTurnedWrongFalsely : Prop := autoTurnedRow.holds Tryz.pinned (OpenSpec.ofChange autoTurnedWrong)

/-- 'bridlewaylaw16.AutoRuns': WHATEVER THE INPUT: true; the input reads as it did. -/
def autoRunsSpec : ChangeSpec := { name := "autoRuns", fn := fun _ => fun
  | [d1, d2, d3, d4] => { results := [.lit (.bool true)], args := [d1, d2, d3, d4] }
  | _ => none }
def autoRunsRow : OpenClaim := { program := "ytjhkehloipmjfaagreat", sum := "8d2af8486433594c9c9dd27dfa00b344f2087423f210f59cc92fb136853c3809", func := "bridleway/bridlewaylaw16.AutoRuns", spec := "autoRuns", inPlace := ["math.Float64frombits", "math.Float64bits", "math.archFloor", "math.archTrunc"], unfollowed := true, recurses := true, loops := true, plainKeys := false, apart := false }
def AutoRunsSaid : Prop := autoRunsRow.holds Tryz.pinned (OpenSpec.ofChange autoRunsSpec)

/-- ITS FALSE NEIGHBOUR: 'it returns false'. Refute it at one input. -/
def autoRunsWrong : ChangeSpec := { name := "autoRuns", fn := fun _ => fun
  | [d1, d2, d3, d4] => { results := [.lit (.bool false)], args := [d1, d2, d3, d4] }
  | _ => none }
def AutoRunsWrongFalsely : Prop := autoRunsRow.holds Tryz.pinned (OpenSpec.ofChange autoRunsWrong)

/- THE SECOND FORM. 'bulk': how many values and letters a reading holds, each counted each time it is reached (what is shared counts as often as it is met; a slice's spare places count too). A statement '..UptoSaid' is the law's where the arguments, and the package variables that the reading takes, are together of bulk at most 1048576: NARROWER than '..Said'. Prove '..Said' where nothing that the law and all that it calls make is longer than what came in: it says more and counts as full. Else prove '..UptoSaid'. A law counts once. -/
mutual
def uptoBulk {H : Type} : DataW H → Nat
  | .lit (.string bytes) => bytes.length + 1
  | .lit _ => 1
  | .nil => 1
  | .ptr d => uptoBulk d + 1
  | .slice elems spare => uptoBulkAll elems + uptoBulkAll spare + 1
  | .agg parts => uptoBulkAll parts + 1
  | .iface _ d => uptoBulk d + 1
  | .map entries => uptoBulkEntries entries + 1
  | .held _ => 1
def uptoBulkAll {H : Type} : List (DataW H) → Nat
  | [] => 0
  | d :: r => uptoBulk d + uptoBulkAll r
def uptoBulkEntries {H : Type} : List (Lit × DataW H) → Nat
  | [] => 0
  | x :: r => uptoBulkEntry x + uptoBulkEntries r
def uptoBulkEntry {H : Type} : Lit × DataW H → Nat
  | (.string bytes, d) => bytes.length + uptoBulk d + 1
  | (_, d) => uptoBulk d + 1
 end
def uptoSmall : (H : Type) → List (DataW H) → Bool := fun _ ds => decide (uptoBulkAll ds ≤ 1048576)
def OpenSpec.upto (s : _root_.Go.ChangeSpec) : _root_.Go.OpenSpec := { _root_.Go.OpenSpec.ofChange s with cond := some uptoSmall }

/-- 'bridlewaylaw16.AutoSets', WHERE WHAT IT READS IS OF BULK AT MOST 1048576: true; the input reads as it did. -/
def autoSetsUptoRow : OpenClaim := { program := "ytjhkehloipmjfaagreat", sum := "8d2af8486433594c9c9dd27dfa00b344f2087423f210f59cc92fb136853c3809", func := "bridleway/bridlewaylaw16.AutoSets", spec := "autoSets", inPlace := ["math.Float64frombits", "math.Float64bits"], unfollowed := true, recurses := true, loops := true, plainKeys := false, apart := false, narrowed := true }
def AutoSetsUptoSaid : Prop := autoSetsUptoRow.holds Tryz.pinned (OpenSpec.upto autoSetsSpec)

/-- 'bridlewaylaw16.AutoTells', WHERE WHAT IT READS IS OF BULK AT MOST 1048576: true; the input reads as it did. -/
def autoTellsUptoRow : OpenClaim := { program := "ytjhkehloipmjfaagreat", sum := "8d2af8486433594c9c9dd27dfa00b344f2087423f210f59cc92fb136853c3809", func := "bridleway/bridlewaylaw16.AutoTells", spec := "autoTells", inPlace := ["math.Float64frombits", "math.Float64bits"], unfollowed := true, recurses := true, loops := true, plainKeys := false, apart := false, narrowed := true }
def AutoTellsUptoSaid : Prop := autoTellsUptoRow.holds Tryz.pinned (OpenSpec.upto autoTellsSpec)

/-- 'bridlewaylaw16.AutoTurned', WHERE WHAT IT READS IS OF BULK AT MOST 1048576: true; the input reads as it did. -/
def autoTurnedUptoRow : OpenClaim := { program := "ytjhkehloipmjfaagreat", sum := "8d2af8486433594c9c9dd27dfa00b344f2087423f210f59cc92fb136853c3809", func := "bridleway/bridlewaylaw16.AutoTurned", spec := "autoTurned", inPlace := ["math.Float64frombits", "math.Float64bits", "math.archFloor", "math.archTrunc"], unfollowed := true, recurses := true, loops := true, plainKeys := false, apart := false, narrowed := true }
def AutoTurnedUptoSaid : Prop := autoTurnedUptoRow.holds Tryz.pinned (OpenSpec.upto autoTurnedSpec)

/-- 'bridlewaylaw16.AutoRuns', WHERE WHAT IT READS IS OF BULK AT MOST 1048576: true; the input reads as it did. -/
def autoRunsUptoRow : OpenClaim := { program := "ytjhkehloipmjfaagreat", sum := "8d2af8486433594c9c9dd27dfa00b344f2087423f210f59cc92fb136853c3809", func := "bridleway/bridlewaylaw16.AutoRuns", spec := "autoRuns", inPlace := ["math.Float64frombits", "math.Float64bits", "math.archFloor", "math.archTrunc"], unfollowed := true, recurses := true, loops := true, plainKeys := false, apart := false, narrowed := true }
def AutoRunsUptoSaid : Prop := autoRunsUptoRow.holds Tryz.pinned (OpenSpec.upto autoRunsSpec)

end Rows
end Go.Proofs.YtjhkehloipmjfaaGreat
