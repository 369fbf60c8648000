/-
  NARROWER THAN 'FOR EVERY INPUT', by the rows' own cells (each row's printed sentence says how): NormTells: loops · NormTimes: loops · NormGroups: loops · NormKeeps: loops · NormAgain: loops · ScopeNames: loops · ScopeEnds: loops · ScopeSpans: loops · ScopeSums: loops · ScopeSizes: loops · ScopeChecks: loops.
  DERIVED. THE GIVEN ROWS OF THIS SEAT. 11 by the template 'for every input the law returns true; each argument reads behind the call as it read before'; 0 by the template 'total and deterministic' (their statements: YtgdgcloenhnbiaaTotals.lean).
  GIVEN WITH THE SEED: the statements are not yours to turn. If you find one false, say at which input.
  Laid BY PROGRAM, IN A SANDBOX (cutbox-rows.mjs): the forced cells as the released guide's own fill.sh prints them over the translation 6dd5327820fd4f9b… (all of the seat's roots in one cut). By AI agents, Wed Nov 11 2026. No macro, syntax, notation, axiom, sorry.
-/
import Derived.Test.YtgdgcloenhnbiaaChecked
import GoSem.Claim
import GoSem.ClaimJoined
import GoSem.ClaimMapViews
import Derived.JoinedTies
import Derived.KernelRfl
namespace Go.Proofs.Ytgdgcloenhnbiaa
/- THE CELL 'sum', in the pinned program and in every row, IS THE sha256 OF THE DUMP (.gsa) THAT YtgdgcloenhnbiaaProg.lean LOADS. Nothing in Lean hashes anything: it is a label: what it is worth is what the hold of that sum in a sandbox is worth. -/
noncomputable def Try.pinned : Pinned := { name := "ytgdgcloenhnbiaa", sum := "6dd5327820fd4f9bac9b57c6545f9b6413a9059a273903a8e12e3bc62780f8cf", checked := Try.checked }
namespace Rows
def none {H : Type} : Left H := { results := [], args := [] }

/-- 'bridlewaylaw14.NormTells': WHATEVER THE INPUT: true; the input reads as it did. -/
def normTellsSpec : ChangeSpec := { name := "normTells", fn := fun _ => fun
  | [d] => { results := [.lit (.bool true)], args := [d] }
  | _ => none }
def normTellsRow : OpenClaim := { program := "ytgdgcloenhnbiaa", sum := "6dd5327820fd4f9bac9b57c6545f9b6413a9059a273903a8e12e3bc62780f8cf", func := "bridleway/bridlewaylaw14.NormTells", spec := "normTells", inPlace := ["math.Float64frombits", "math.Float64bits"], unfollowed := true, recurses := true, loops := true, apart := false }
def NormTellsSaid : Prop := normTellsRow.holds Try.pinned (OpenSpec.ofChange normTellsSpec)

/-- ITS FALSE NEIGHBOUR: 'it returns false'. Refute it at one input. -/
def normTellsWrong : ChangeSpec := { name := "normTells", fn := fun _ => fun
  | [d] => { results := [.lit (.bool false)], args := [d] }
  | _ => none }
def NormTellsWrongFalsely : Prop := normTellsRow.holds Try.pinned (OpenSpec.ofChange normTellsWrong)

/-- 'bridlewaylaw14.NormTimes': WHATEVER THE INPUT: true; the input reads as it did. -/
def normTimesSpec : ChangeSpec := { name := "normTimes", fn := fun _ => fun
  | [d1, d2, d3] => { results := [.lit (.bool true)], args := [d1, d2, d3] }
  | _ => none }
def normTimesRow : OpenClaim := { program := "ytgdgcloenhnbiaa", sum := "6dd5327820fd4f9bac9b57c6545f9b6413a9059a273903a8e12e3bc62780f8cf", func := "bridleway/bridlewaylaw14.NormTimes", spec := "normTimes", inPlace := ["math.Float64frombits", "math.Float64bits"], unfollowed := true, recurses := true, loops := true, apart := false }
def NormTimesSaid : Prop := normTimesRow.holds Try.pinned (OpenSpec.ofChange normTimesSpec)

/-- ITS FALSE NEIGHBOUR: 'it returns false'. Refute it at one input. -/
def normTimesWrong : ChangeSpec := { name := "normTimes", fn := fun _ => fun
  | [d1, d2, d3] => { results := [.lit (.bool false)], args := [d1, d2, d3] }
  | _ => none }
def NormTimesWrongFalsely : Prop := normTimesRow.holds Try.pinned (OpenSpec.ofChange normTimesWrong)

/-- 'bridlewaylaw14.NormGroups': WHATEVER THE INPUT: true; the input reads as it did. -/
def normGroupsSpec : ChangeSpec := { name := "normGroups", fn := fun _ => fun
  | [d1, d2, d3, d4] => { results := [.lit (.bool true)], args := [d1, d2, d3, d4] }
  | _ => none }
def normGroupsRow : OpenClaim := { program := "ytgdgcloenhnbiaa", sum := "6dd5327820fd4f9bac9b57c6545f9b6413a9059a273903a8e12e3bc62780f8cf", func := "bridleway/bridlewaylaw14.NormGroups", spec := "normGroups", inPlace := ["math.Float64frombits", "math.Float64bits"], unfollowed := true, recurses := true, loops := true, apart := false }
def NormGroupsSaid : Prop := normGroupsRow.holds Try.pinned (OpenSpec.ofChange normGroupsSpec)

/-- ITS FALSE NEIGHBOUR: 'it returns false'. Refute it at one input. -/
def normGroupsWrong : ChangeSpec := { name := "normGroups", fn := fun _ => fun
  | [d1, d2, d3, d4] => { results := [.lit (.bool false)], args := [d1, d2, d3, d4] }
  | _ => none }
def NormGroupsWrongFalsely : Prop := normGroupsRow.holds Try.pinned (OpenSpec.ofChange normGroupsWrong)

/-- 'bridlewaylaw14.NormKeeps': WHATEVER THE INPUT: true; the input reads as it did. -/
def normKeepsSpec : ChangeSpec := { name := "normKeeps", fn := fun _ => fun
  | [d] => { results := [.lit (.bool true)], args := [d] }
  | _ => none }
def normKeepsRow : OpenClaim := { program := "ytgdgcloenhnbiaa", sum := "6dd5327820fd4f9bac9b57c6545f9b6413a9059a273903a8e12e3bc62780f8cf", func := "bridleway/bridlewaylaw14.NormKeeps", spec := "normKeeps", inPlace := ["math.Float64frombits", "math.Float64bits"], unfollowed := true, recurses := true, loops := true, apart := false }
def NormKeepsSaid : Prop := normKeepsRow.holds Try.pinned (OpenSpec.ofChange normKeepsSpec)

/-- ITS FALSE NEIGHBOUR: 'it returns false'. Refute it at one input. -/
def normKeepsWrong : ChangeSpec := { name := "normKeeps", fn := fun _ => fun
  | [d] => { results := [.lit (.bool false)], args := [d] }
  | _ => none }
def NormKeepsWrongFalsely : Prop := normKeepsRow.holds Try.pinned (OpenSpec.ofChange normKeepsWrong)

/-- 'bridlewaylaw14.NormAgain': WHATEVER THE INPUT: true; the input reads as it did. -/
def normAgainSpec : ChangeSpec := { name := "normAgain", fn := fun _ => fun
  | [d] => { results := [.lit (.bool true)], args := [d] }
  | _ => none }
def normAgainRow : OpenClaim := { program := "ytgdgcloenhnbiaa", sum := "6dd5327820fd4f9bac9b57c6545f9b6413a9059a273903a8e12e3bc62780f8cf", func := "bridleway/bridlewaylaw14.NormAgain", spec := "normAgain", inPlace := ["math.Float64frombits", "math.Float64bits"], unfollowed := true, recurses := true, loops := true, apart := false }
def NormAgainSaid : Prop := normAgainRow.holds Try.pinned (OpenSpec.ofChange normAgainSpec)

/-- ITS FALSE NEIGHBOUR: 'it returns false'. Refute it at one input. -/
def normAgainWrong : ChangeSpec := { name := "normAgain", fn := fun _ => fun
  | [d] => { results := [.lit (.bool false)], args := [d] }
  | _ => none }
def NormAgainWrongFalsely : Prop := normAgainRow.holds Try.pinned (OpenSpec.ofChange normAgainWrong)

/-- 'bridlewaylaw13.ScopeNames': WHATEVER THE INPUT: true; the input reads as it did. -/
def scopeNamesSpec : ChangeSpec := { name := "scopeNames", fn := fun _ => fun
  | [d1, d2] => { results := [.lit (.bool true)], args := [d1, d2] }
  | _ => none }
def scopeNamesRow : OpenClaim := { program := "ytgdgcloenhnbiaa", sum := "6dd5327820fd4f9bac9b57c6545f9b6413a9059a273903a8e12e3bc62780f8cf", func := "bridleway/bridlewaylaw13.ScopeNames", spec := "scopeNames", inPlace := ["math.Float64frombits", "math.Float64bits"], unfollowed := true, recurses := true, loops := true, apart := false }
def ScopeNamesSaid : Prop := scopeNamesRow.holds Try.pinned (OpenSpec.ofChange scopeNamesSpec)

/-- ITS FALSE NEIGHBOUR: 'it returns false'. Refute it at one input. -/
def scopeNamesWrong : ChangeSpec := { name := "scopeNames", fn := fun _ => fun
  | [d1, d2] => { results := [.lit (.bool false)], args := [d1, d2] }
  | _ => none }
def ScopeNamesWrongFalsely : Prop := scopeNamesRow.holds Try.pinned (OpenSpec.ofChange scopeNamesWrong)

/-- 'bridlewaylaw13.ScopeEnds': WHATEVER THE INPUT: true; the input reads as it did. -/
def scopeEndsSpec : ChangeSpec := { name := "scopeEnds", fn := fun _ => fun
  | [d1, d2, d3, d4] => { results := [.lit (.bool true)], args := [d1, d2, d3, d4] }
  | _ => none }
def scopeEndsRow : OpenClaim := { program := "ytgdgcloenhnbiaa", sum := "6dd5327820fd4f9bac9b57c6545f9b6413a9059a273903a8e12e3bc62780f8cf", func := "bridleway/bridlewaylaw13.ScopeEnds", spec := "scopeEnds", inPlace := ["math.Float64frombits", "math.Float64bits"], unfollowed := true, recurses := true, loops := true, apart := false }
def ScopeEndsSaid : Prop := scopeEndsRow.holds Try.pinned (OpenSpec.ofChange scopeEndsSpec)

/-- ITS FALSE NEIGHBOUR: 'it returns false'. Refute it at one input. -/
def scopeEndsWrong : ChangeSpec := { name := "scopeEnds", fn := fun _ => fun
  | [d1, d2, d3, d4] => { results := [.lit (.bool false)], args := [d1, d2, d3, d4] }
  | _ => none }
def ScopeEndsWrongFalsely : Prop := scopeEndsRow.holds Try.pinned (OpenSpec.ofChange scopeEndsWrong)

/-- 'bridlewaylaw13.ScopeSpans': WHATEVER THE INPUT: true; the input reads as it did. -/
def scopeSpansSpec : ChangeSpec := { name := "scopeSpans", fn := fun _ => fun
  | [d] => { results := [.lit (.bool true)], args := [d] }
  | _ => none }
def scopeSpansRow : OpenClaim := { program := "ytgdgcloenhnbiaa", sum := "6dd5327820fd4f9bac9b57c6545f9b6413a9059a273903a8e12e3bc62780f8cf", func := "bridleway/bridlewaylaw13.ScopeSpans", spec := "scopeSpans", inPlace := ["math.Float64frombits", "math.Float64bits"], unfollowed := true, recurses := true, loops := true, apart := false }
def ScopeSpansSaid : Prop := scopeSpansRow.holds Try.pinned (OpenSpec.ofChange scopeSpansSpec)

/-- ITS FALSE NEIGHBOUR: 'it returns false'. Refute it at one input. -/
def scopeSpansWrong : ChangeSpec := { name := "scopeSpans", fn := fun _ => fun
  | [d] => { results := [.lit (.bool false)], args := [d] }
  | _ => none }
def ScopeSpansWrongFalsely : Prop := scopeSpansRow.holds Try.pinned (OpenSpec.ofChange scopeSpansWrong)

/-- 'bridlewaylaw13.ScopeSums': WHATEVER THE INPUT: true; the input reads as it did. -/
def scopeSumsSpec : ChangeSpec := { name := "scopeSums", fn := fun _ => fun
  | [d1, d2, d3] => { results := [.lit (.bool true)], args := [d1, d2, d3] }
  | _ => none }
def scopeSumsRow : OpenClaim := { program := "ytgdgcloenhnbiaa", sum := "6dd5327820fd4f9bac9b57c6545f9b6413a9059a273903a8e12e3bc62780f8cf", func := "bridleway/bridlewaylaw13.ScopeSums", spec := "scopeSums", inPlace := ["math.Float64frombits", "math.Float64bits"], unfollowed := true, recurses := true, loops := true, apart := false }
def ScopeSumsSaid : Prop := scopeSumsRow.holds Try.pinned (OpenSpec.ofChange scopeSumsSpec)

/-- ITS FALSE NEIGHBOUR: 'it returns false'. Refute it at one input. -/
def scopeSumsWrong : ChangeSpec := { name := "scopeSums", fn := fun _ => fun
  | [d1, d2, d3] => { results := [.lit (.bool false)], args := [d1, d2, d3] }
  | _ => none }
def ScopeSumsWrongFalsely : Prop := scopeSumsRow.holds Try.pinned (OpenSpec.ofChange scopeSumsWrong)

/-- 'bridlewaylaw13.ScopeSizes': WHATEVER THE INPUT: true; the input reads as it did. -/
def scopeSizesSpec : ChangeSpec := { name := "scopeSizes", fn := fun _ => fun
  | [d1, d2] => { results := [.lit (.bool true)], args := [d1, d2] }
  | _ => none }
def scopeSizesRow : OpenClaim := { program := "ytgdgcloenhnbiaa", sum := "6dd5327820fd4f9bac9b57c6545f9b6413a9059a273903a8e12e3bc62780f8cf", func := "bridleway/bridlewaylaw13.ScopeSizes", spec := "scopeSizes", inPlace := ["math.Float64frombits", "math.Float64bits"], unfollowed := true, recurses := true, loops := true, apart := false }
def ScopeSizesSaid : Prop := scopeSizesRow.holds Try.pinned (OpenSpec.ofChange scopeSizesSpec)

/-- ITS FALSE NEIGHBOUR: 'it returns false'. Refute it at one input. -/
def scopeSizesWrong : ChangeSpec := { name := "scopeSizes", fn := fun _ => fun
  | [d1, d2] => { results := [.lit (.bool false)], args := [d1, d2] }
  | _ => none }
def ScopeSizesWrongFalsely : Prop := scopeSizesRow.holds Try.pinned (OpenSpec.ofChange scopeSizesWrong)

/-- 'bridlewaylaw13.ScopeChecks': WHATEVER THE INPUT: true; the input reads as it did. -/
def scopeChecksSpec : ChangeSpec := { name := "scopeChecks", fn := fun _ => fun
  | [d1, d2, d3] => { results := [.lit (.bool true)], args := [d1, d2, d3] }
  | _ => none }
def scopeChecksRow : OpenClaim := { program := "ytgdgcloenhnbiaa", sum := "6dd5327820fd4f9bac9b57c6545f9b6413a9059a273903a8e12e3bc62780f8cf", func := "bridleway/bridlewaylaw13.ScopeChecks", spec := "scopeChecks", inPlace := ["math.Float64frombits", "math.Float64bits"], unfollowed := true, recurses := true, loops := true, apart := false }
def ScopeChecksSaid : Prop := scopeChecksRow.holds Try.pinned (OpenSpec.ofChange scopeChecksSpec)

/-- ITS FALSE NEIGHBOUR: 'it returns false'. Refute it at one input. -/
def scopeChecksWrong : ChangeSpec := { name := "scopeChecks", fn := fun _ => fun
  | [d1, d2, d3] => { results := [.lit (.bool false)], args := [d1, d2, d3] }
  | _ => none }
def ScopeChecksWrongFalsely : Prop := scopeChecksRow.holds Try.pinned (OpenSpec.ofChange scopeChecksWrong)

/- THE SECOND FORM. 'bulk': how many values and letters a reading holds, each counted each time it is reached (what is shared counts as often as it is met; a slice's spare places count too). A statement '..UptoSaid' is the law's where the arguments, and the package variables that the reading takes, are together of bulk at most 1048576: NARROWER than '..Said'. Prove '..Said' where nothing that the law and all that it calls make is longer than what came in: it says more and counts as full. Else prove '..UptoSaid'. A law counts once. -/
mutual
def uptoBulk {H : Type} : DataW H → Nat
  | .lit (.string bytes) => bytes.length + 1
  | .lit _ => 1
  | .nil => 1
  | .ptr d => uptoBulk d + 1
  | .slice elems spare => uptoBulkAll elems + uptoBulkAll spare + 1
  | .agg parts => uptoBulkAll parts + 1
  | .iface _ d => uptoBulk d + 1
  | .map entries => uptoBulkEntries entries + 1
  | .held _ => 1
def uptoBulkAll {H : Type} : List (DataW H) → Nat
  | [] => 0
  | d :: r => uptoBulk d + uptoBulkAll r
def uptoBulkEntries {H : Type} : List (Lit × DataW H) → Nat
  | [] => 0
  | x :: r => uptoBulkEntry x + uptoBulkEntries r
def uptoBulkEntry {H : Type} : Lit × DataW H → Nat
  | (.string bytes, d) => bytes.length + uptoBulk d + 1
  | (_, d) => uptoBulk d + 1
 end
def uptoSmall : (H : Type) → List (DataW H) → Bool := fun _ ds => decide (uptoBulkAll ds ≤ 1048576)
def OpenSpec.upto (s : _root_.Go.ChangeSpec) : _root_.Go.OpenSpec := { _root_.Go.OpenSpec.ofChange s with cond := some uptoSmall }

/-- 'bridlewaylaw14.NormTells', WHERE WHAT IT READS IS OF BULK AT MOST 1048576: true; the input reads as it did. -/
def normTellsUptoRow : OpenClaim := { program := "ytgdgcloenhnbiaa", sum := "6dd5327820fd4f9bac9b57c6545f9b6413a9059a273903a8e12e3bc62780f8cf", func := "bridleway/bridlewaylaw14.NormTells", spec := "normTells", inPlace := ["math.Float64frombits", "math.Float64bits"], unfollowed := true, recurses := true, loops := true, apart := false, narrowed := true }
def NormTellsUptoSaid : Prop := normTellsUptoRow.holds Try.pinned (OpenSpec.upto normTellsSpec)

/-- 'bridlewaylaw14.NormTimes', WHERE WHAT IT READS IS OF BULK AT MOST 1048576: true; the input reads as it did. -/
def normTimesUptoRow : OpenClaim := { program := "ytgdgcloenhnbiaa", sum := "6dd5327820fd4f9bac9b57c6545f9b6413a9059a273903a8e12e3bc62780f8cf", func := "bridleway/bridlewaylaw14.NormTimes", spec := "normTimes", inPlace := ["math.Float64frombits", "math.Float64bits"], unfollowed := true, recurses := true, loops := true, apart := false, narrowed := true }
def NormTimesUptoSaid : Prop := normTimesUptoRow.holds Try.pinned (OpenSpec.upto normTimesSpec)

/-- 'bridlewaylaw14.NormGroups', WHERE WHAT IT READS IS OF BULK AT MOST 1048576: true; the input reads as it did. -/
def normGroupsUptoRow : OpenClaim := { program := "ytgdgcloenhnbiaa", sum := "6dd5327820fd4f9bac9b57c6545f9b6413a9059a273903a8e12e3bc62780f8cf", func := "bridleway/bridlewaylaw14.NormGroups", spec := "normGroups", inPlace := ["math.Float64frombits", "math.Float64bits"], unfollowed := true, recurses := true, loops := true, apart := false, narrowed := true }
def NormGroupsUptoSaid : Prop := normGroupsUptoRow.holds Try.pinned (OpenSpec.upto normGroupsSpec)

/-- 'bridlewaylaw14.NormKeeps', WHERE WHAT IT READS IS OF BULK AT MOST 1048576: true; the input reads as it did. -/
def normKeepsUptoRow : OpenClaim := { program := "ytgdgcloenhnbiaa", sum := "6dd5327820fd4f9bac9b57c6545f9b6413a9059a273903a8e12e3bc62780f8cf", func := "bridleway/bridlewaylaw14.NormKeeps", spec := "normKeeps", inPlace := ["math.Float64frombits", "math.Float64bits"], unfollowed := true, recurses := true, loops := true, apart := false, narrowed := true }
def NormKeepsUptoSaid : Prop := normKeepsUptoRow.holds Try.pinned (OpenSpec.upto normKeepsSpec)

/-- 'bridlewaylaw14.NormAgain', WHERE WHAT IT READS IS OF BULK AT MOST 1048576: true; the input reads as it did. -/
def normAgainUptoRow : OpenClaim := { program := "ytgdgcloenhnbiaa", sum := "6dd5327820fd4f9bac9b57c6545f9b6413a9059a273903a8e12e3bc62780f8cf", func := "bridleway/bridlewaylaw14.NormAgain", spec := "normAgain", inPlace := ["math.Float64frombits", "math.Float64bits"], unfollowed := true, recurses := true, loops := true, apart := false, narrowed := true }
def NormAgainUptoSaid : Prop := normAgainUptoRow.holds Try.pinned (OpenSpec.upto normAgainSpec)

/-- 'bridlewaylaw13.ScopeNames', WHERE WHAT IT READS IS OF BULK AT MOST 1048576: true; the input reads as it did. -/
def scopeNamesUptoRow : OpenClaim := { program := "ytgdgcloenhnbiaa", sum := "6dd5327820fd4f9bac9b57c6545f9b6413a9059a273903a8e12e3bc62780f8cf", func := "bridleway/bridlewaylaw13.ScopeNames", spec := "scopeNames", inPlace := ["math.Float64frombits", "math.Float64bits"], unfollowed := true, recurses := true, loops := true, apart := false, narrowed := true }
def ScopeNamesUptoSaid : Prop := scopeNamesUptoRow.holds Try.pinned (OpenSpec.upto scopeNamesSpec)

/-- 'bridlewaylaw13.ScopeEnds', WHERE WHAT IT READS IS OF BULK AT MOST 1048576: true; the input reads as it did. -/
def scopeEndsUptoRow : OpenClaim := { program := "ytgdgcloenhnbiaa", sum := "6dd5327820fd4f9bac9b57c6545f9b6413a9059a273903a8e12e3bc62780f8cf", func := "bridleway/bridlewaylaw13.ScopeEnds", spec := "scopeEnds", inPlace := ["math.Float64frombits", "math.Float64bits"], unfollowed := true, recurses := true, loops := true, apart := false, narrowed := true }
def ScopeEndsUptoSaid : Prop := scopeEndsUptoRow.holds Try.pinned (OpenSpec.upto scopeEndsSpec)

/-- 'bridlewaylaw13.ScopeSpans', WHERE WHAT IT READS IS OF BULK AT MOST 1048576: true; the input reads as it did. -/
def scopeSpansUptoRow : OpenClaim := { program := "ytgdgcloenhnbiaa", sum := "6dd5327820fd4f9bac9b57c6545f9b6413a9059a273903a8e12e3bc62780f8cf", func := "bridleway/bridlewaylaw13.ScopeSpans", spec := "scopeSpans", inPlace := ["math.Float64frombits", "math.Float64bits"], unfollowed := true, recurses := true, loops := true, apart := false, narrowed := true }
def ScopeSpansUptoSaid : Prop := scopeSpansUptoRow.holds Try.pinned (OpenSpec.upto scopeSpansSpec)

/-- 'bridlewaylaw13.ScopeSums', WHERE WHAT IT READS IS OF BULK AT MOST 1048576: true; the input reads as it did. -/
def scopeSumsUptoRow : OpenClaim := { program := "ytgdgcloenhnbiaa", sum := "6dd5327820fd4f9bac9b57c6545f9b6413a9059a273903a8e12e3bc62780f8cf", func := "bridleway/bridlewaylaw13.ScopeSums", spec := "scopeSums", inPlace := ["math.Float64frombits", "math.Float64bits"], unfollowed := true, recurses := true, loops := true, apart := false, narrowed := true }
def ScopeSumsUptoSaid : Prop := scopeSumsUptoRow.holds Try.pinned (OpenSpec.upto scopeSumsSpec)

/-- 'bridlewaylaw13.ScopeSizes', WHERE WHAT IT READS IS OF BULK AT MOST 1048576: true; the input reads as it did. -/
def scopeSizesUptoRow : OpenClaim := { program := "ytgdgcloenhnbiaa", sum := "6dd5327820fd4f9bac9b57c6545f9b6413a9059a273903a8e12e3bc62780f8cf", func := "bridleway/bridlewaylaw13.ScopeSizes", spec := "scopeSizes", inPlace := ["math.Float64frombits", "math.Float64bits"], unfollowed := true, recurses := true, loops := true, apart := false, narrowed := true }
def ScopeSizesUptoSaid : Prop := scopeSizesUptoRow.holds Try.pinned (OpenSpec.upto scopeSizesSpec)

/-- 'bridlewaylaw13.ScopeChecks', WHERE WHAT IT READS IS OF BULK AT MOST 1048576: true; the input reads as it did. -/
def scopeChecksUptoRow : OpenClaim := { program := "ytgdgcloenhnbiaa", sum := "6dd5327820fd4f9bac9b57c6545f9b6413a9059a273903a8e12e3bc62780f8cf", func := "bridleway/bridlewaylaw13.ScopeChecks", spec := "scopeChecks", inPlace := ["math.Float64frombits", "math.Float64bits"], unfollowed := true, recurses := true, loops := true, apart := false, narrowed := true }
def ScopeChecksUptoSaid : Prop := scopeChecksUptoRow.holds Try.pinned (OpenSpec.upto scopeChecksSpec)

end Rows
end Go.Proofs.Ytgdgcloenhnbiaa
