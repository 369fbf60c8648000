/-
  NARROWER THAN 'FOR EVERY INPUT', by the rows' own cells (each row's printed sentence says how): ReachTells: loops · AutoTurned: loops · ReachMore: loops · ReachTurned: loops · AutoRuns: loops · ReachWays: loops · ReachNears: loops · MatchTable: loops · MatchBindings: loops · MatchSums: loops · MatchVars: loops · MatchTimes: loops · MatchTurned: loops · MatchNormal: loops.
  DERIVED. THE GIVEN ROWS OF THIS SEAT. 15 by the template 'for every input the law returns true; each argument reads behind the call as it read before'; 0 by the template 'total and deterministic' (their statements: YtiplihojmfbjkaaGreatTotals.lean).
  GIVEN WITH THE SEED: the statements are not yours to turn. If you find one false, say at which input.
  Laid BY PROGRAM, IN A SANDBOX (cutbox-rows.mjs): the forced cells as the released guide's own fill.sh prints them over the translation 15693bcd5c28f7cb… (all of the seat's roots in one cut). By AI agents, Wed Nov 11 2026. No macro, syntax, notation, axiom, sorry.
-/
import Derived.Test.YtiplihojmfbjkaaGreatChecked
import GoSem.Claim
import GoSem.ClaimJoined
import GoSem.ClaimMapViews
import Derived.JoinedTies
import Derived.KernelRfl
namespace Go.Proofs.YtiplihojmfbjkaaGreat
/- THE CELL 'sum', in the pinned program and in every row, IS THE sha256 OF THE DUMP (.gsa) THAT YtiplihojmfbjkaaGreatProg.lean LOADS. Nothing in Lean hashes anything: it is a label: what it is worth is what the hold of that sum in a sandbox is worth. -/
noncomputable def Tryz.pinned : Pinned := { name := "ytiplihojmfbjkaagreat", sum := "15693bcd5c28f7cb369d37c2cfefbf71de6667ce9524a307576b76e2ab3a745f", checked := Tryz.checked }
namespace Rows
def none {H : Type} : Left H := { results := [], args := [] }

/-- 'bridlewaylaw17.ReachTells': WHATEVER THE INPUT: true; the input reads as it did. -/
def reachTellsSpec : ChangeSpec := { name := "reachTells", fn := fun _ => fun
  | [d1, d2, d3, d4, d5] => { results := [.lit (.bool true)], args := [d1, d2, d3, d4, d5] }
  | _ => none }
def reachTellsRow : OpenClaim := { program := "ytiplihojmfbjkaagreat", sum := "15693bcd5c28f7cb369d37c2cfefbf71de6667ce9524a307576b76e2ab3a745f", func := "bridleway/bridlewaylaw17.ReachTells", spec := "reachTells", inPlace := ["math.Float64frombits", "math.Float64bits"], unfollowed := true, recurses := true, loops := true, plainKeys := false, apart := false }
def ReachTellsSaid : Prop := reachTellsRow.holds Tryz.pinned (OpenSpec.ofChange reachTellsSpec)

/-- ITS FALSE NEIGHBOUR: 'it returns false'. Refute it at one input. -/
def reachTellsWrong : ChangeSpec := { name := "reachTells", fn := fun _ => fun
  | [d1, d2, d3, d4, d5] => { results := [.lit (.bool false)], args := [d1, d2, d3, d4, d5] }
  | _ => none }
def ReachTellsWrongFalsely : Prop := reachTellsRow.holds Tryz.pinned (OpenSpec.ofChange reachTellsWrong)

/-- 'bridlewaylaw16.AutoTurned': WHATEVER THE INPUT: true; the input reads as it did. -/
def autoTurnedSpec : ChangeSpec := { name := "autoTurned", fn := fun _ => fun
  | [d1, d2, d3, d4] => { results := [.lit (.bool true)], args := [d1, d2, d3, d4] }
  | _ => none }
def autoTurnedRow : OpenClaim := { program := "ytiplihojmfbjkaagreat", sum := "15693bcd5c28f7cb369d37c2cfefbf71de6667ce9524a307576b76e2ab3a745f", func := "bridleway/bridlewaylaw16.AutoTurned", spec := "autoTurned", inPlace := ["math.Float64frombits", "math.Float64bits", "math.archFloor", "math.archTrunc"], unfollowed := true, recurses := true, loops := true, plainKeys := false, apart := false }
def AutoTurnedSaid : Prop := autoTurnedRow.holds Tryz.pinned (OpenSpec.ofChange autoTurnedSpec)

/-- ITS FALSE NEIGHBOUR: 'it returns false'. Refute it at one input. -/
def autoTurnedWrong : ChangeSpec := { name := "autoTurned", fn := fun _ => fun
  | [d1, d2, d3, d4] => { results := [.lit (.bool false)], args := [d1, d2, d3, d4] }
  | _ => none }
def AutoTurnedWrongFalsely : Prop := autoTurnedRow.holds Tryz.pinned (OpenSpec.ofChange autoTurnedWrong)

/-- 'bridlewaylaw17.ReachMore': WHATEVER THE INPUT: true; the input reads as it did. -/
def reachMoreSpec : ChangeSpec := { name := "reachMore", fn := fun _ => fun
  | [d1, d2, d3, d4, d5] => { results := [.lit (.bool true)], args := [d1, d2, d3, d4, d5] }
  | _ => none }
def reachMoreRow : OpenClaim := { program := "ytiplihojmfbjkaagreat", sum := "15693bcd5c28f7cb369d37c2cfefbf71de6667ce9524a307576b76e2ab3a745f", func := "bridleway/bridlewaylaw17.ReachMore", spec := "reachMore", inPlace := ["math.Float64frombits", "math.Float64bits", "math.archFloor", "math.archTrunc"], unfollowed := true, recurses := true, loops := true, plainKeys := false, apart := false }
def ReachMoreSaid : Prop := reachMoreRow.holds Tryz.pinned (OpenSpec.ofChange reachMoreSpec)

/-- ITS FALSE NEIGHBOUR: 'it returns false'. Refute it at one input. -/
def reachMoreWrong : ChangeSpec := { name := "reachMore", fn := fun _ => fun
  | [d1, d2, d3, d4, d5] => { results := [.lit (.bool false)], args := [d1, d2, d3, d4, d5] }
  | _ => none }
def ReachMoreWrongFalsely : Prop := reachMoreRow.holds Tryz.pinned (OpenSpec.ofChange reachMoreWrong)

/-- 'bridlewaylaw17.ReachTurned': WHATEVER THE INPUT: true; the input reads as it did. -/
def reachTurnedSpec : ChangeSpec := { name := "reachTurned", fn := fun _ => fun
  | [d1, d2, d3, d4] => { results := [.lit (.bool true)], args := [d1, d2, d3, d4] }
  | _ => none }
def reachTurnedRow : OpenClaim := { program := "ytiplihojmfbjkaagreat", sum := "15693bcd5c28f7cb369d37c2cfefbf71de6667ce9524a307576b76e2ab3a745f", func := "bridleway/bridlewaylaw17.ReachTurned", spec := "reachTurned", inPlace := ["math.Float64frombits", "math.Float64bits", "math.archFloor", "math.archTrunc"], unfollowed := true, recurses := true, loops := true, plainKeys := false, apart := false }
def ReachTurnedSaid : Prop := reachTurnedRow.holds Tryz.pinned (OpenSpec.ofChange reachTurnedSpec)

/-- ITS FALSE NEIGHBOUR: 'it returns false'. Refute it at one input. -/
def reachTurnedWrong : ChangeSpec := { name := "reachTurned", fn := fun _ => fun
  | [d1, d2, d3, d4] => { results := [.lit (.bool false)], args := [d1, d2, d3, d4] }
  | _ => none }
def ReachTurnedWrongFalsely : Prop := reachTurnedRow.holds Tryz.pinned (OpenSpec.ofChange reachTurnedWrong)

/-- 'bridlewaylaw16.AutoRuns': WHATEVER THE INPUT: true; the input reads as it did. -/
def autoRunsSpec : ChangeSpec := { name := "autoRuns", fn := fun _ => fun
  | [d1, d2, d3, d4] => { results := [.lit (.bool true)], args := [d1, d2, d3, d4] }
  | _ => none }
def autoRunsRow : OpenClaim := { program := "ytiplihojmfbjkaagreat", sum := "15693bcd5c28f7cb369d37c2cfefbf71de6667ce9524a307576b76e2ab3a745f", func := "bridleway/bridlewaylaw16.AutoRuns", spec := "autoRuns", inPlace := ["math.Float64frombits", "math.Float64bits", "math.archFloor", "math.archTrunc"], unfollowed := true, recurses := true, loops := true, plainKeys := false, apart := false }
def AutoRunsSaid : Prop := autoRunsRow.holds Tryz.pinned (OpenSpec.ofChange autoRunsSpec)

/-- ITS FALSE NEIGHBOUR: 'it returns false'. Refute it at one input. -/
def autoRunsWrong : ChangeSpec := { name := "autoRuns", fn := fun _ => fun
  | [d1, d2, d3, d4] => { results := [.lit (.bool false)], args := [d1, d2, d3, d4] }
  | _ => none }
def AutoRunsWrongFalsely : Prop := autoRunsRow.holds Tryz.pinned (OpenSpec.ofChange autoRunsWrong)

/-- 'bridlewaylaw17.ReachWays': WHATEVER THE INPUT: true; the input reads as it did. -/
def reachWaysSpec : ChangeSpec := { name := "reachWays", fn := fun _ => fun
  | [d1, d2, d3] => { results := [.lit (.bool true)], args := [d1, d2, d3] }
  | _ => none }
def reachWaysRow : OpenClaim := { program := "ytiplihojmfbjkaagreat", sum := "15693bcd5c28f7cb369d37c2cfefbf71de6667ce9524a307576b76e2ab3a745f", func := "bridleway/bridlewaylaw17.ReachWays", spec := "reachWays", inPlace := ["math.Float64frombits", "math.Float64bits", "math.archFloor", "math.archTrunc"], unfollowed := true, recurses := true, loops := true, plainKeys := false, apart := false }
def ReachWaysSaid : Prop := reachWaysRow.holds Tryz.pinned (OpenSpec.ofChange reachWaysSpec)

/-- ITS FALSE NEIGHBOUR: 'it returns false'. Refute it at one input. -/
def reachWaysWrong : ChangeSpec := { name := "reachWays", fn := fun _ => fun
  | [d1, d2, d3] => { results := [.lit (.bool false)], args := [d1, d2, d3] }
  | _ => none }
def ReachWaysWrongFalsely : Prop := reachWaysRow.holds Tryz.pinned (OpenSpec.ofChange reachWaysWrong)

/-- 'bridlewaylaw17.ReachNears': WHATEVER THE INPUT: true; the input reads as it did. -/
def reachNearsSpec : ChangeSpec := { name := "reachNears", fn := fun _ => fun
  | [d1, d2, d3, d4, d5] => { results := [.lit (.bool true)], args := [d1, d2, d3, d4, d5] }
  | _ => none }
def reachNearsRow : OpenClaim := { program := "ytiplihojmfbjkaagreat", sum := "15693bcd5c28f7cb369d37c2cfefbf71de6667ce9524a307576b76e2ab3a745f", func := "bridleway/bridlewaylaw17.ReachNears", spec := "reachNears", inPlace := ["math.Float64frombits", "math.Float64bits", "math.archFloor", "math.archTrunc"], unfollowed := true, recurses := true, loops := true, plainKeys := false, apart := false }
def ReachNearsSaid : Prop := reachNearsRow.holds Tryz.pinned (OpenSpec.ofChange reachNearsSpec)

/-- ITS FALSE NEIGHBOUR: 'it returns false'. Refute it at one input. -/
def reachNearsWrong : ChangeSpec := { name := "reachNears", fn := fun _ => fun
  | [d1, d2, d3, d4, d5] => { results := [.lit (.bool false)], args := [d1, d2, d3, d4, d5] }
  | _ => none }
def ReachNearsWrongFalsely : Prop := reachNearsRow.holds Tryz.pinned (OpenSpec.ofChange reachNearsWrong)

/-- 'bridlewaylaw15.MatchPaths': WHATEVER THE INPUT: true; the input reads as it did. -/
def matchPathsSpec : ChangeSpec := { name := "matchPaths", fn := fun _ => fun
  | [d1, d2, d3, d4, d5, d6] => { results := [.lit (.bool true)], args := [d1, d2, d3, d4, d5, d6] }
  | _ => none }
def matchPathsRow : OpenClaim := { program := "ytiplihojmfbjkaagreat", sum := "15693bcd5c28f7cb369d37c2cfefbf71de6667ce9524a307576b76e2ab3a745f", func := "bridleway/bridlewaylaw15.MatchPaths", spec := "matchPaths", inPlace := ["math.Float64frombits", "math.Float64bits", "math.archFloor", "math.archTrunc"], unfollowed := true, recurses := true, plainKeys := false, apart := false }
def MatchPathsSaid : Prop := matchPathsRow.holds Tryz.pinned (OpenSpec.ofChange matchPathsSpec)

/-- ITS FALSE NEIGHBOUR: 'it returns false'. Refute it at one input. -/
def matchPathsWrong : ChangeSpec := { name := "matchPaths", fn := fun _ => fun
  | [d1, d2, d3, d4, d5, d6] => { results := [.lit (.bool false)], args := [d1, d2, d3, d4, d5, d6] }
  | _ => none }
def MatchPathsWrongFalsely : Prop := matchPathsRow.holds Tryz.pinned (OpenSpec.ofChange matchPathsWrong)

/-- 'bridlewaylaw15.MatchTable': WHATEVER THE INPUT: true; the input reads as it did. -/
def matchTableSpec : ChangeSpec := { name := "matchTable", fn := fun _ => fun
  | [d1, d2] => { results := [.lit (.bool true)], args := [d1, d2] }
  | _ => none }
def matchTableRow : OpenClaim := { program := "ytiplihojmfbjkaagreat", sum := "15693bcd5c28f7cb369d37c2cfefbf71de6667ce9524a307576b76e2ab3a745f", func := "bridleway/bridlewaylaw15.MatchTable", spec := "matchTable", inPlace := ["math.Float64frombits", "math.Float64bits", "math.archFloor", "math.archTrunc"], unfollowed := true, recurses := true, loops := true, plainKeys := false, apart := false }
def MatchTableSaid : Prop := matchTableRow.holds Tryz.pinned (OpenSpec.ofChange matchTableSpec)

/-- ITS FALSE NEIGHBOUR: 'it returns false'. Refute it at one input. -/
def matchTableWrong : ChangeSpec := { name := "matchTable", fn := fun _ => fun
  | [d1, d2] => { results := [.lit (.bool false)], args := [d1, d2] }
  | _ => none }
def MatchTableWrongFalsely : Prop := matchTableRow.holds Tryz.pinned (OpenSpec.ofChange matchTableWrong)

/-- 'bridlewaylaw15.MatchBindings': WHATEVER THE INPUT: true; the input reads as it did. -/
def matchBindingsSpec : ChangeSpec := { name := "matchBindings", fn := fun _ => fun
  | [d1, d2, d3, d4] => { results := [.lit (.bool true)], args := [d1, d2, d3, d4] }
  | _ => none }
def matchBindingsRow : OpenClaim := { program := "ytiplihojmfbjkaagreat", sum := "15693bcd5c28f7cb369d37c2cfefbf71de6667ce9524a307576b76e2ab3a745f", func := "bridleway/bridlewaylaw15.MatchBindings", spec := "matchBindings", inPlace := ["math.Float64frombits", "math.Float64bits", "math.archFloor", "math.archTrunc"], unfollowed := true, recurses := true, loops := true, plainKeys := false, apart := false }
def MatchBindingsSaid : Prop := matchBindingsRow.holds Tryz.pinned (OpenSpec.ofChange matchBindingsSpec)

/-- ITS FALSE NEIGHBOUR: 'it returns false'. Refute it at one input. -/
def matchBindingsWrong : ChangeSpec := { name := "matchBindings", fn := fun _ => fun
  | [d1, d2, d3, d4] => { results := [.lit (.bool false)], args := [d1, d2, d3, d4] }
  | _ => none }
def MatchBindingsWrongFalsely : Prop := matchBindingsRow.holds Tryz.pinned (OpenSpec.ofChange matchBindingsWrong)

/-- 'bridlewaylaw15.MatchSums': WHATEVER THE INPUT: true; the input reads as it did. -/
def matchSumsSpec : ChangeSpec := { name := "matchSums", fn := fun _ => fun
  | [d1, d2, d3, d4, d5] => { results := [.lit (.bool true)], args := [d1, d2, d3, d4, d5] }
  | _ => none }
def matchSumsRow : OpenClaim := { program := "ytiplihojmfbjkaagreat", sum := "15693bcd5c28f7cb369d37c2cfefbf71de6667ce9524a307576b76e2ab3a745f", func := "bridleway/bridlewaylaw15.MatchSums", spec := "matchSums", inPlace := ["math.Float64frombits", "math.Float64bits", "math.archFloor", "math.archTrunc"], unfollowed := true, recurses := true, loops := true, plainKeys := false, apart := false }
def MatchSumsSaid : Prop := matchSumsRow.holds Tryz.pinned (OpenSpec.ofChange matchSumsSpec)

/-- ITS FALSE NEIGHBOUR: 'it returns false'. Refute it at one input. -/
def matchSumsWrong : ChangeSpec := { name := "matchSums", fn := fun _ => fun
  | [d1, d2, d3, d4, d5] => { results := [.lit (.bool false)], args := [d1, d2, d3, d4, d5] }
  | _ => none }
def MatchSumsWrongFalsely : Prop := matchSumsRow.holds Tryz.pinned (OpenSpec.ofChange matchSumsWrong)

/-- 'bridlewaylaw15.MatchVars': WHATEVER THE INPUT: true; the input reads as it did. -/
def matchVarsSpec : ChangeSpec := { name := "matchVars", fn := fun _ => fun
  | [d1, d2, d3, d4] => { results := [.lit (.bool true)], args := [d1, d2, d3, d4] }
  | _ => none }
def matchVarsRow : OpenClaim := { program := "ytiplihojmfbjkaagreat", sum := "15693bcd5c28f7cb369d37c2cfefbf71de6667ce9524a307576b76e2ab3a745f", func := "bridleway/bridlewaylaw15.MatchVars", spec := "matchVars", inPlace := ["math.Float64frombits", "math.Float64bits", "math.archFloor", "math.archTrunc"], unfollowed := true, recurses := true, loops := true, plainKeys := false, apart := false }
def MatchVarsSaid : Prop := matchVarsRow.holds Tryz.pinned (OpenSpec.ofChange matchVarsSpec)

/-- ITS FALSE NEIGHBOUR: 'it returns false'. Refute it at one input. -/
def matchVarsWrong : ChangeSpec := { name := "matchVars", fn := fun _ => fun
  | [d1, d2, d3, d4] => { results := [.lit (.bool false)], args := [d1, d2, d3, d4] }
  | _ => none }
def MatchVarsWrongFalsely : Prop := matchVarsRow.holds Tryz.pinned (OpenSpec.ofChange matchVarsWrong)

/-- 'bridlewaylaw15.MatchTimes': WHATEVER THE INPUT: true; the input reads as it did. -/
def matchTimesSpec : ChangeSpec := { name := "matchTimes", fn := fun _ => fun
  | [d1, d2, d3, d4, d5] => { results := [.lit (.bool true)], args := [d1, d2, d3, d4, d5] }
  | _ => none }
def matchTimesRow : OpenClaim := { program := "ytiplihojmfbjkaagreat", sum := "15693bcd5c28f7cb369d37c2cfefbf71de6667ce9524a307576b76e2ab3a745f", func := "bridleway/bridlewaylaw15.MatchTimes", spec := "matchTimes", inPlace := ["math.Float64frombits", "math.Float64bits", "math.archFloor", "math.archTrunc"], unfollowed := true, recurses := true, loops := true, plainKeys := false, apart := false }
def MatchTimesSaid : Prop := matchTimesRow.holds Tryz.pinned (OpenSpec.ofChange matchTimesSpec)

/-- ITS FALSE NEIGHBOUR: 'it returns false'. Refute it at one input. -/
def matchTimesWrong : ChangeSpec := { name := "matchTimes", fn := fun _ => fun
  | [d1, d2, d3, d4, d5] => { results := [.lit (.bool false)], args := [d1, d2, d3, d4, d5] }
  | _ => none }
def MatchTimesWrongFalsely : Prop := matchTimesRow.holds Tryz.pinned (OpenSpec.ofChange matchTimesWrong)

/-- 'bridlewaylaw15.MatchTurned': WHATEVER THE INPUT: true; the input reads as it did. -/
def matchTurnedSpec : ChangeSpec := { name := "matchTurned", fn := fun _ => fun
  | [d1, d2, d3, d4] => { results := [.lit (.bool true)], args := [d1, d2, d3, d4] }
  | _ => none }
def matchTurnedRow : OpenClaim := { program := "ytiplihojmfbjkaagreat", sum := "15693bcd5c28f7cb369d37c2cfefbf71de6667ce9524a307576b76e2ab3a745f", func := "bridleway/bridlewaylaw15.MatchTurned", spec := "matchTurned", inPlace := ["math.Float64frombits", "math.Float64bits", "math.archFloor", "math.archTrunc"], unfollowed := true, recurses := true, loops := true, plainKeys := false, apart := false }
def MatchTurnedSaid : Prop := matchTurnedRow.holds Tryz.pinned (OpenSpec.ofChange matchTurnedSpec)

/-- ITS FALSE NEIGHBOUR: 'it returns false'. Refute it at one input. -/
def matchTurnedWrong : ChangeSpec := { name := "matchTurned", fn := fun _ => fun
  | [d1, d2, d3, d4] => { results := [.lit (.bool false)], args := [d1, d2, d3, d4] }
  | _ => none }
def MatchTurnedWrongFalsely : Prop := matchTurnedRow.holds Tryz.pinned (OpenSpec.ofChange matchTurnedWrong)

/-- 'bridlewaylaw15.MatchNormal': WHATEVER THE INPUT: true; the input reads as it did. -/
def matchNormalSpec : ChangeSpec := { name := "matchNormal", fn := fun _ => fun
  | [d1, d2, d3, d4] => { results := [.lit (.bool true)], args := [d1, d2, d3, d4] }
  | _ => none }
def matchNormalRow : OpenClaim := { program := "ytiplihojmfbjkaagreat", sum := "15693bcd5c28f7cb369d37c2cfefbf71de6667ce9524a307576b76e2ab3a745f", func := "bridleway/bridlewaylaw15.MatchNormal", spec := "matchNormal", inPlace := ["math.Float64frombits", "math.Float64bits", "math.archFloor", "math.archTrunc"], unfollowed := true, recurses := true, loops := true, plainKeys := false, apart := false }
def MatchNormalSaid : Prop := matchNormalRow.holds Tryz.pinned (OpenSpec.ofChange matchNormalSpec)

/-- ITS FALSE NEIGHBOUR: 'it returns false'. Refute it at one input. -/
def matchNormalWrong : ChangeSpec := { name := "matchNormal", fn := fun _ => fun
  | [d1, d2, d3, d4] => { results := [.lit (.bool false)], args := [d1, d2, d3, d4] }
  | _ => none }
def MatchNormalWrongFalsely : Prop := matchNormalRow.holds Tryz.pinned (OpenSpec.ofChange matchNormalWrong)

/- THE SECOND FORM. 'bulk': how many values and letters a reading holds, each counted each time it is reached (what is shared counts as often as it is met; a slice's spare places count too). A statement '..UptoSaid' is the law's where the arguments, and the package variables that the reading takes, are together of bulk at most 1048576: NARROWER than '..Said'. Prove '..Said' where nothing that the law and all that it calls make is longer than what came in: it says more and counts as full. Else prove '..UptoSaid'. A law counts once. -/
mutual
def uptoBulk {H : Type} : DataW H → Nat
  | .lit (.string bytes) => bytes.length + 1
  | .lit _ => 1
  | .nil => 1
  | .ptr d => uptoBulk d + 1
  | .slice elems spare => uptoBulkAll elems + uptoBulkAll spare + 1
  | .agg parts => uptoBulkAll parts + 1
  | .iface _ d => uptoBulk d + 1
  | .map entries => uptoBulkEntries entries + 1
  | .held _ => 1
def uptoBulkAll {H : Type} : List (DataW H) → Nat
  | [] => 0
  | d :: r => uptoBulk d + uptoBulkAll r
def uptoBulkEntries {H : Type} : List (Lit × DataW H) → Nat
  | [] => 0
  | x :: r => uptoBulkEntry x + uptoBulkEntries r
def uptoBulkEntry {H : Type} : Lit × DataW H → Nat
  | (.string bytes, d) => bytes.length + uptoBulk d + 1
  | (_, d) => uptoBulk d + 1
 end
def uptoSmall : (H : Type) → List (DataW H) → Bool := fun _ ds => decide (uptoBulkAll ds ≤ 1048576)
def OpenSpec.upto (s : _root_.Go.ChangeSpec) : _root_.Go.OpenSpec := { _root_.Go.OpenSpec.ofChange s with cond := some uptoSmall }

/-- 'bridlewaylaw17.ReachTells', WHERE WHAT IT READS IS OF BULK AT MOST 1048576: true; the input reads as it did. -/
def reachTellsUptoRow : OpenClaim := { program := "ytiplihojmfbjkaagreat", sum := "15693bcd5c28f7cb369d37c2cfefbf71de6667ce9524a307576b76e2ab3a745f", func := "bridleway/bridlewaylaw17.ReachTells", spec := "reachTells", inPlace := ["math.Float64frombits", "math.Float64bits"], unfollowed := true, recurses := true, loops := true, plainKeys := false, apart := false, narrowed := true }
def ReachTellsUptoSaid : Prop := reachTellsUptoRow.holds Tryz.pinned (OpenSpec.upto reachTellsSpec)

/-- 'bridlewaylaw16.AutoTurned', WHERE WHAT IT READS IS OF BULK AT MOST 1048576: true; the input reads as it did. -/
def autoTurnedUptoRow : OpenClaim := { program := "ytiplihojmfbjkaagreat", sum := "15693bcd5c28f7cb369d37c2cfefbf71de6667ce9524a307576b76e2ab3a745f", func := "bridleway/bridlewaylaw16.AutoTurned", spec := "autoTurned", inPlace := ["math.Float64frombits", "math.Float64bits", "math.archFloor", "math.archTrunc"], unfollowed := true, recurses := true, loops := true, plainKeys := false, apart := false, narrowed := true }
def AutoTurnedUptoSaid : Prop := autoTurnedUptoRow.holds Tryz.pinned (OpenSpec.upto autoTurnedSpec)

/-- 'bridlewaylaw17.ReachMore', WHERE WHAT IT READS IS OF BULK AT MOST 1048576: true; the input reads as it did. -/
def reachMoreUptoRow : OpenClaim := { program := "ytiplihojmfbjkaagreat", sum := "15693bcd5c28f7cb369d37c2cfefbf71de6667ce9524a307576b76e2ab3a745f", func := "bridleway/bridlewaylaw17.ReachMore", spec := "reachMore", inPlace := ["math.Float64frombits", "math.Float64bits", "math.archFloor", "math.archTrunc"], unfollowed := true, recurses := true, loops := true, plainKeys := false, apart := false, narrowed := true }
def ReachMoreUptoSaid : Prop := reachMoreUptoRow.holds Tryz.pinned (OpenSpec.upto reachMoreSpec)

/-- 'bridlewaylaw17.ReachTurned', WHERE WHAT IT READS IS OF BULK AT MOST 1048576: true; the input reads as it did. -/
def reachTurnedUptoRow : OpenClaim := { program := "ytiplihojmfbjkaagreat", sum := "15693bcd5c28f7cb369d37c2cfefbf71de6667ce9524a307576b76e2ab3a745f", func := "bridleway/bridlewaylaw17.ReachTurned", spec := "reachTurned", inPlace := ["math.Float64frombits", "math.Float64bits", "math.archFloor", "math.archTrunc"], unfollowed := true, recurses := true, loops := true, plainKeys := false, apart := false, narrowed := true }
def ReachTurnedUptoSaid : Prop := reachTurnedUptoRow.holds Tryz.pinned (OpenSpec.upto reachTurnedSpec)

/-- 'bridlewaylaw16.AutoRuns', WHERE WHAT IT READS IS OF BULK AT MOST 1048576: true; the input reads as it did. -/
def autoRunsUptoRow : OpenClaim := { program := "ytiplihojmfbjkaagreat", sum := "15693bcd5c28f7cb369d37c2cfefbf71de6667ce9524a307576b76e2ab3a745f", func := "bridleway/bridlewaylaw16.AutoRuns", spec := "autoRuns", inPlace := ["math.Float64frombits", "math.Float64bits", "math.archFloor", "math.archTrunc"], unfollowed := true, recurses := true, loops := true, plainKeys := false, apart := false, narrowed := true }
def AutoRunsUptoSaid : Prop := autoRunsUptoRow.holds Tryz.pinned (OpenSpec.upto autoRunsSpec)

/-- 'bridlewaylaw17.ReachWays', WHERE WHAT IT READS IS OF BULK AT MOST 1048576: true; the input reads as it did. -/
def reachWaysUptoRow : OpenClaim := { program := "ytiplihojmfbjkaagreat", sum := "15693bcd5c28f7cb369d37c2cfefbf71de6667ce9524a307576b76e2ab3a745f", func := "bridleway/bridlewaylaw17.ReachWays", spec := "reachWays", inPlace := ["math.Float64frombits", "math.Float64bits", "math.archFloor", "math.archTrunc"], unfollowed := true, recurses := true, loops := true, plainKeys := false, apart := false, narrowed := true }
def ReachWaysUptoSaid : Prop := reachWaysUptoRow.holds Tryz.pinned (OpenSpec.upto reachWaysSpec)

/-- 'bridlewaylaw17.ReachNears', WHERE WHAT IT READS IS OF BULK AT MOST 1048576: true; the input reads as it did. -/
def reachNearsUptoRow : OpenClaim := { program := "ytiplihojmfbjkaagreat", sum := "15693bcd5c28f7cb369d37c2cfefbf71de6667ce9524a307576b76e2ab3a745f", func := "bridleway/bridlewaylaw17.ReachNears", spec := "reachNears", inPlace := ["math.Float64frombits", "math.Float64bits", "math.archFloor", "math.archTrunc"], unfollowed := true, recurses := true, loops := true, plainKeys := false, apart := false, narrowed := true }
def ReachNearsUptoSaid : Prop := reachNearsUptoRow.holds Tryz.pinned (OpenSpec.upto reachNearsSpec)

/-- 'bridlewaylaw15.MatchPaths', WHERE WHAT IT READS IS OF BULK AT MOST 1048576: true; the input reads as it did. -/
def matchPathsUptoRow : OpenClaim := { program := "ytiplihojmfbjkaagreat", sum := "15693bcd5c28f7cb369d37c2cfefbf71de6667ce9524a307576b76e2ab3a745f", func := "bridleway/bridlewaylaw15.MatchPaths", spec := "matchPaths", inPlace := ["math.Float64frombits", "math.Float64bits", "math.archFloor", "math.archTrunc"], unfollowed := true, recurses := true, plainKeys := false, apart := false, narrowed := true }
def MatchPathsUptoSaid : Prop := matchPathsUptoRow.holds Tryz.pinned (OpenSpec.upto matchPathsSpec)

/-- 'bridlewaylaw15.MatchTable', WHERE WHAT IT READS IS OF BULK AT MOST 1048576: true; the input reads as it did. -/
def matchTableUptoRow : OpenClaim := { program := "ytiplihojmfbjkaagreat", sum := "15693bcd5c28f7cb369d37c2cfefbf71de6667ce9524a307576b76e2ab3a745f", func := "bridleway/bridlewaylaw15.MatchTable", spec := "matchTable", inPlace := ["math.Float64frombits", "math.Float64bits", "math.archFloor", "math.archTrunc"], unfollowed := true, recurses := true, loops := true, plainKeys := false, apart := false, narrowed := true }
def MatchTableUptoSaid : Prop := matchTableUptoRow.holds Tryz.pinned (OpenSpec.upto matchTableSpec)

/-- 'bridlewaylaw15.MatchBindings', WHERE WHAT IT READS IS OF BULK AT MOST 1048576: true; the input reads as it did. -/
def matchBindingsUptoRow : OpenClaim := { program := "ytiplihojmfbjkaagreat", sum := "15693bcd5c28f7cb369d37c2cfefbf71de6667ce9524a307576b76e2ab3a745f", func := "bridleway/bridlewaylaw15.MatchBindings", spec := "matchBindings", inPlace := ["math.Float64frombits", "math.Float64bits", "math.archFloor", "math.archTrunc"], unfollowed := true, recurses := true, loops := true, plainKeys := false, apart := false, narrowed := true }
def MatchBindingsUptoSaid : Prop := matchBindingsUptoRow.holds Tryz.pinned (OpenSpec.upto matchBindingsSpec)

/-- 'bridlewaylaw15.MatchSums', WHERE WHAT IT READS IS OF BULK AT MOST 1048576: true; the input reads as it did. -/
def matchSumsUptoRow : OpenClaim := { program := "ytiplihojmfbjkaagreat", sum := "15693bcd5c28f7cb369d37c2cfefbf71de6667ce9524a307576b76e2ab3a745f", func := "bridleway/bridlewaylaw15.MatchSums", spec := "matchSums", inPlace := ["math.Float64frombits", "math.Float64bits", "math.archFloor", "math.archTrunc"], unfollowed := true, recurses := true, loops := true, plainKeys := false, apart := false, narrowed := true }
def MatchSumsUptoSaid : Prop := matchSumsUptoRow.holds Tryz.pinned (OpenSpec.upto matchSumsSpec)

/-- 'bridlewaylaw15.MatchVars', WHERE WHAT IT READS IS OF BULK AT MOST 1048576: true; the input reads as it did. -/
def matchVarsUptoRow : OpenClaim := { program := "ytiplihojmfbjkaagreat", sum := "15693bcd5c28f7cb369d37c2cfefbf71de6667ce9524a307576b76e2ab3a745f", func := "bridleway/bridlewaylaw15.MatchVars", spec := "matchVars", inPlace := ["math.Float64frombits", "math.Float64bits", "math.archFloor", "math.archTrunc"], unfollowed := true, recurses := true, loops := true, plainKeys := false, apart := false, narrowed := true }
def MatchVarsUptoSaid : Prop := matchVarsUptoRow.holds Tryz.pinned (OpenSpec.upto matchVarsSpec)

/-- 'bridlewaylaw15.MatchTimes', WHERE WHAT IT READS IS OF BULK AT MOST 1048576: true; the input reads as it did. -/
def matchTimesUptoRow : OpenClaim := { program := "ytiplihojmfbjkaagreat", sum := "15693bcd5c28f7cb369d37c2cfefbf71de6667ce9524a307576b76e2ab3a745f", func := "bridleway/bridlewaylaw15.MatchTimes", spec := "matchTimes", inPlace := ["math.Float64frombits", "math.Float64bits", "math.archFloor", "math.archTrunc"], unfollowed := true, recurses := true, loops := true, plainKeys := false, apart := false, narrowed := true }
def MatchTimesUptoSaid : Prop := matchTimesUptoRow.holds Tryz.pinned (OpenSpec.upto matchTimesSpec)

/-- 'bridlewaylaw15.MatchTurned', WHERE WHAT IT READS IS OF BULK AT MOST 1048576: true; the input reads as it did. -/
def matchTurnedUptoRow : OpenClaim := { program := "ytiplihojmfbjkaagreat", sum := "15693bcd5c28f7cb369d37c2cfefbf71de6667ce9524a307576b76e2ab3a745f", func := "bridleway/bridlewaylaw15.MatchTurned", spec := "matchTurned", inPlace := ["math.Float64frombits", "math.Float64bits", "math.archFloor", "math.archTrunc"], unfollowed := true, recurses := true, loops := true, plainKeys := false, apart := false, narrowed := true }
def MatchTurnedUptoSaid : Prop := matchTurnedUptoRow.holds Tryz.pinned (OpenSpec.upto matchTurnedSpec)

/-- 'bridlewaylaw15.MatchNormal', WHERE WHAT IT READS IS OF BULK AT MOST 1048576: true; the input reads as it did. -/
def matchNormalUptoRow : OpenClaim := { program := "ytiplihojmfbjkaagreat", sum := "15693bcd5c28f7cb369d37c2cfefbf71de6667ce9524a307576b76e2ab3a745f", func := "bridleway/bridlewaylaw15.MatchNormal", spec := "matchNormal", inPlace := ["math.Float64frombits", "math.Float64bits", "math.archFloor", "math.archTrunc"], unfollowed := true, recurses := true, loops := true, plainKeys := false, apart := false, narrowed := true }
def MatchNormalUptoSaid : Prop := matchNormalUptoRow.holds Tryz.pinned (OpenSpec.upto matchNormalSpec)

end Rows
end Go.Proofs.YtiplihojmfbjkaaGreat
