/-
  NARROWER THAN 'FOR EVERY INPUT', by the rows' own cells (each row's printed sentence says how): LabelTells: loops · LabelLogic: loops · LabelNames: loops · LabelMore: loops · LabelWrong: loops.
  DERIVED. THE GIVEN ROWS OF THIS SEAT. 8 by the template 'for every input the law returns true; each argument reads behind the call as it read before'; 0 by the template 'total and deterministic' (their statements: YtljkfobgbjnilaaTotals.lean).
  GIVEN WITH THE SEED: the statements are not yours to turn. If you find one false, say at which input.
  Laid BY PROGRAM, IN A SANDBOX (cutbox-rows.mjs): the forced cells as the released guide's own fill.sh prints them over the translation 438f26106523ff94… (all of the seat's roots in one cut). By AI agents, Wed Nov 11 2026. No macro, syntax, notation, axiom, sorry.
-/
import Derived.Test.YtljkfobgbjnilaaChecked
import GoSem.Claim
import GoSem.ClaimJoined
import GoSem.ClaimMapViews
import Derived.JoinedTies
import Derived.KernelRfl
namespace Go.Proofs.Ytljkfobgbjnilaa
/- THE CELL 'sum', in the pinned program and in every row, IS THE sha256 OF THE DUMP (.gsa) THAT YtljkfobgbjnilaaProg.lean LOADS. Nothing in Lean hashes anything: it is a label: what it is worth is what the hold of that sum in a sandbox is worth. -/
noncomputable def Try.pinned : Pinned := { name := "ytljkfobgbjnilaa", sum := "438f26106523ff945b45cdae80a4dbe70dbbdba6f32f539f63e7ee59174b20ce", checked := Try.checked }
namespace Rows
def none {H : Type} : Left H := { results := [], args := [] }

/-- 'bridlewaylaw06.LabelTells': WHATEVER THE INPUT: true; the input reads as it did. -/
def labelTellsSpec : ChangeSpec := { name := "labelTells", fn := fun _ => fun
  | [d1, d2, d3] => { results := [.lit (.bool true)], args := [d1, d2, d3] }
  | _ => none }
def labelTellsRow : OpenClaim := { program := "ytljkfobgbjnilaa", sum := "438f26106523ff945b45cdae80a4dbe70dbbdba6f32f539f63e7ee59174b20ce", func := "bridleway/bridlewaylaw06.LabelTells", spec := "labelTells", unfollowed := true, recurses := true, loops := true, apart := false }
def LabelTellsSaid : Prop := labelTellsRow.holds Try.pinned (OpenSpec.ofChange labelTellsSpec)

/-- ITS FALSE NEIGHBOUR: 'it returns false'. Refute it at one input. -/
def labelTellsWrong : ChangeSpec := { name := "labelTells", fn := fun _ => fun
  | [d1, d2, d3] => { results := [.lit (.bool false)], args := [d1, d2, d3] }
  | _ => none }
def LabelTellsWrongFalsely : Prop := labelTellsRow.holds Try.pinned (OpenSpec.ofChange labelTellsWrong)

/-- 'bridlewaylaw06.LabelLogic': WHATEVER THE INPUT: true; the input reads as it did. -/
def labelLogicSpec : ChangeSpec := { name := "labelLogic", fn := fun _ => fun
  | [d1, d2, d3] => { results := [.lit (.bool true)], args := [d1, d2, d3] }
  | _ => none }
def labelLogicRow : OpenClaim := { program := "ytljkfobgbjnilaa", sum := "438f26106523ff945b45cdae80a4dbe70dbbdba6f32f539f63e7ee59174b20ce", func := "bridleway/bridlewaylaw06.LabelLogic", spec := "labelLogic", unfollowed := true, recurses := true, loops := true, apart := false }
def LabelLogicSaid : Prop := labelLogicRow.holds Try.pinned (OpenSpec.ofChange labelLogicSpec)

/-- ITS FALSE NEIGHBOUR: 'it returns false'. Refute it at one input. -/
def labelLogicWrong : ChangeSpec := { name := "labelLogic", fn := fun _ => fun
  | [d1, d2, d3] => { results := [.lit (.bool false)], args := [d1, d2, d3] }
  | _ => none }
def LabelLogicWrongFalsely : Prop := labelLogicRow.holds Try.pinned (OpenSpec.ofChange labelLogicWrong)

/-- 'bridlewaylaw06.LabelNames': WHATEVER THE INPUT: true; the input reads as it did. -/
def labelNamesSpec : ChangeSpec := { name := "labelNames", fn := fun _ => fun
  | [d1, d2] => { results := [.lit (.bool true)], args := [d1, d2] }
  | _ => none }
def labelNamesRow : OpenClaim := { program := "ytljkfobgbjnilaa", sum := "438f26106523ff945b45cdae80a4dbe70dbbdba6f32f539f63e7ee59174b20ce", func := "bridleway/bridlewaylaw06.LabelNames", spec := "labelNames", unfollowed := true, recurses := true, loops := true, apart := false }
def LabelNamesSaid : Prop := labelNamesRow.holds Try.pinned (OpenSpec.ofChange labelNamesSpec)

/-- ITS FALSE NEIGHBOUR: 'it returns false'. Refute it at one input. -/
def labelNamesWrong : ChangeSpec := { name := "labelNames", fn := fun _ => fun
  | [d1, d2] => { results := [.lit (.bool false)], args := [d1, d2] }
  | _ => none }
def LabelNamesWrongFalsely : Prop := labelNamesRow.holds Try.pinned (OpenSpec.ofChange labelNamesWrong)

/-- 'bridlewaylaw06.LabelWords': WHATEVER THE INPUT: true; the input reads as it did. -/
def labelWordsSpec : ChangeSpec := { name := "labelWords", fn := fun _ => fun
  | [d1, d2] => { results := [.lit (.bool true)], args := [d1, d2] }
  | _ => none }
def labelWordsRow : OpenClaim := { program := "ytljkfobgbjnilaa", sum := "438f26106523ff945b45cdae80a4dbe70dbbdba6f32f539f63e7ee59174b20ce", func := "bridleway/bridlewaylaw06.LabelWords", spec := "labelWords", unfollowed := true, recurses := true, apart := false }
def LabelWordsSaid : Prop := labelWordsRow.holds Try.pinned (OpenSpec.ofChange labelWordsSpec)

/-- ITS FALSE NEIGHBOUR: 'it returns false'. Refute it at one input. -/
def labelWordsWrong : ChangeSpec := { name := "labelWords", fn := fun _ => fun
  | [d1, d2] => { results := [.lit (.bool false)], args := [d1, d2] }
  | _ => none }
def LabelWordsWrongFalsely : Prop := labelWordsRow.holds Try.pinned (OpenSpec.ofChange labelWordsWrong)

/-- 'bridlewaylaw06.LabelDeep': WHATEVER THE INPUT: true; the input reads as it did. -/
def labelDeepSpec : ChangeSpec := { name := "labelDeep", fn := fun _ => fun
  | [d1, d2] => { results := [.lit (.bool true)], args := [d1, d2] }
  | _ => none }
def labelDeepRow : OpenClaim := { program := "ytljkfobgbjnilaa", sum := "438f26106523ff945b45cdae80a4dbe70dbbdba6f32f539f63e7ee59174b20ce", func := "bridleway/bridlewaylaw06.LabelDeep", spec := "labelDeep", unfollowed := true, recurses := true, apart := false }
def LabelDeepSaid : Prop := labelDeepRow.holds Try.pinned (OpenSpec.ofChange labelDeepSpec)

/-- ITS FALSE NEIGHBOUR: 'it returns false'. Refute it at one input. -/
def labelDeepWrong : ChangeSpec := { name := "labelDeep", fn := fun _ => fun
  | [d1, d2] => { results := [.lit (.bool false)], args := [d1, d2] }
  | _ => none }
def LabelDeepWrongFalsely : Prop := labelDeepRow.holds Try.pinned (OpenSpec.ofChange labelDeepWrong)

/-- 'bridlewaylaw06.LabelMore': WHATEVER THE INPUT: true; the input reads as it did. -/
def labelMoreSpec : ChangeSpec := { name := "labelMore", fn := fun _ => fun
  | [d1, d2, d3] => { results := [.lit (.bool true)], args := [d1, d2, d3] }
  | _ => none }
def labelMoreRow : OpenClaim := { program := "ytljkfobgbjnilaa", sum := "438f26106523ff945b45cdae80a4dbe70dbbdba6f32f539f63e7ee59174b20ce", func := "bridleway/bridlewaylaw06.LabelMore", spec := "labelMore", unfollowed := true, recurses := true, loops := true, apart := false }
def LabelMoreSaid : Prop := labelMoreRow.holds Try.pinned (OpenSpec.ofChange labelMoreSpec)

/-- ITS FALSE NEIGHBOUR: 'it returns false'. Refute it at one input. -/
def labelMoreWrong : ChangeSpec := { name := "labelMore", fn := fun _ => fun
  | [d1, d2, d3] => { results := [.lit (.bool false)], args := [d1, d2, d3] }
  | _ => none }
def LabelMoreWrongFalsely : Prop := labelMoreRow.holds Try.pinned (OpenSpec.ofChange labelMoreWrong)

/-- 'bridlewaylaw06.LabelWrong': WHATEVER THE INPUT: true; the input reads as it did. -/
def labelWrongSpec : ChangeSpec := { name := "labelWrong", fn := fun _ => fun
  | [d1, d2, d3] => { results := [.lit (.bool true)], args := [d1, d2, d3] }
  | _ => none }
def labelWrongRow : OpenClaim := { program := "ytljkfobgbjnilaa", sum := "438f26106523ff945b45cdae80a4dbe70dbbdba6f32f539f63e7ee59174b20ce", func := "bridleway/bridlewaylaw06.LabelWrong", spec := "labelWrong", unfollowed := true, recurses := true, loops := true, apart := false }
def LabelWrongSaid : Prop := labelWrongRow.holds Try.pinned (OpenSpec.ofChange labelWrongSpec)

/-- ITS FALSE NEIGHBOUR: 'it returns false'. Refute it at one input. -/
def labelWrongWrong : ChangeSpec := { name := "labelWrong", fn := fun _ => fun
  | [d1, d2, d3] => { results := [.lit (.bool false)], args := [d1, d2, d3] }
  | _ => none }
def LabelWrongWrongFalsely : Prop := labelWrongRow.holds Try.pinned (OpenSpec.ofChange labelWrongWrong)

/-- 'bridlewaylaw06.LabelAlone': WHATEVER THE INPUT: true; the input reads as it did. -/
def labelAloneSpec : ChangeSpec := { name := "labelAlone", fn := fun _ => fun
  | [d1, d2] => { results := [.lit (.bool true)], args := [d1, d2] }
  | _ => none }
def labelAloneRow : OpenClaim := { program := "ytljkfobgbjnilaa", sum := "438f26106523ff945b45cdae80a4dbe70dbbdba6f32f539f63e7ee59174b20ce", func := "bridleway/bridlewaylaw06.LabelAlone", spec := "labelAlone", unfollowed := true, recurses := true, apart := false }
def LabelAloneSaid : Prop := labelAloneRow.holds Try.pinned (OpenSpec.ofChange labelAloneSpec)

/-- ITS FALSE NEIGHBOUR: 'it returns false'. Refute it at one input. -/
def labelAloneWrong : ChangeSpec := { name := "labelAlone", fn := fun _ => fun
  | [d1, d2] => { results := [.lit (.bool false)], args := [d1, d2] }
  | _ => none }
def LabelAloneWrongFalsely : Prop := labelAloneRow.holds Try.pinned (OpenSpec.ofChange labelAloneWrong)

/- THE SECOND FORM. 'bulk': how many values and letters a reading holds, each counted each time it is reached (what is shared counts as often as it is met; a slice's spare places count too). A statement '..UptoSaid' is the law's where the arguments, and the package variables that the reading takes, are together of bulk at most 1048576: NARROWER than '..Said'. Prove '..Said' where nothing that the law and all that it calls make is longer than what came in: it says more and counts as full. Else prove '..UptoSaid'. A law counts once. -/
mutual
def uptoBulk {H : Type} : DataW H → Nat
  | .lit (.string bytes) => bytes.length + 1
  | .lit _ => 1
  | .nil => 1
  | .ptr d => uptoBulk d + 1
  | .slice elems spare => uptoBulkAll elems + uptoBulkAll spare + 1
  | .agg parts => uptoBulkAll parts + 1
  | .iface _ d => uptoBulk d + 1
  | .map entries => uptoBulkEntries entries + 1
  | .held _ => 1
def uptoBulkAll {H : Type} : List (DataW H) → Nat
  | [] => 0
  | d :: r => uptoBulk d + uptoBulkAll r
def uptoBulkEntries {H : Type} : List (Lit × DataW H) → Nat
  | [] => 0
  | x :: r => uptoBulkEntry x + uptoBulkEntries r
def uptoBulkEntry {H : Type} : Lit × DataW H → Nat
  | (.string bytes, d) => bytes.length + uptoBulk d + 1
  | (_, d) => uptoBulk d + 1
 end
def uptoSmall : (H : Type) → List (DataW H) → Bool := fun _ ds => decide (uptoBulkAll ds ≤ 1048576)
def OpenSpec.upto (s : _root_.Go.ChangeSpec) : _root_.Go.OpenSpec := { _root_.Go.OpenSpec.ofChange s with cond := some uptoSmall }

/-- 'bridlewaylaw06.LabelTells', WHERE WHAT IT READS IS OF BULK AT MOST 1048576: true; the input reads as it did. -/
def labelTellsUptoRow : OpenClaim := { program := "ytljkfobgbjnilaa", sum := "438f26106523ff945b45cdae80a4dbe70dbbdba6f32f539f63e7ee59174b20ce", func := "bridleway/bridlewaylaw06.LabelTells", spec := "labelTells", unfollowed := true, recurses := true, loops := true, apart := false, narrowed := true }
def LabelTellsUptoSaid : Prop := labelTellsUptoRow.holds Try.pinned (OpenSpec.upto labelTellsSpec)

/-- 'bridlewaylaw06.LabelLogic', WHERE WHAT IT READS IS OF BULK AT MOST 1048576: true; the input reads as it did. -/
def labelLogicUptoRow : OpenClaim := { program := "ytljkfobgbjnilaa", sum := "438f26106523ff945b45cdae80a4dbe70dbbdba6f32f539f63e7ee59174b20ce", func := "bridleway/bridlewaylaw06.LabelLogic", spec := "labelLogic", unfollowed := true, recurses := true, loops := true, apart := false, narrowed := true }
def LabelLogicUptoSaid : Prop := labelLogicUptoRow.holds Try.pinned (OpenSpec.upto labelLogicSpec)

/-- 'bridlewaylaw06.LabelNames', WHERE WHAT IT READS IS OF BULK AT MOST 1048576: true; the input reads as it did. -/
def labelNamesUptoRow : OpenClaim := { program := "ytljkfobgbjnilaa", sum := "438f26106523ff945b45cdae80a4dbe70dbbdba6f32f539f63e7ee59174b20ce", func := "bridleway/bridlewaylaw06.LabelNames", spec := "labelNames", unfollowed := true, recurses := true, loops := true, apart := false, narrowed := true }
def LabelNamesUptoSaid : Prop := labelNamesUptoRow.holds Try.pinned (OpenSpec.upto labelNamesSpec)

/-- 'bridlewaylaw06.LabelWords', WHERE WHAT IT READS IS OF BULK AT MOST 1048576: true; the input reads as it did. -/
def labelWordsUptoRow : OpenClaim := { program := "ytljkfobgbjnilaa", sum := "438f26106523ff945b45cdae80a4dbe70dbbdba6f32f539f63e7ee59174b20ce", func := "bridleway/bridlewaylaw06.LabelWords", spec := "labelWords", unfollowed := true, recurses := true, apart := false, narrowed := true }
def LabelWordsUptoSaid : Prop := labelWordsUptoRow.holds Try.pinned (OpenSpec.upto labelWordsSpec)

/-- 'bridlewaylaw06.LabelDeep', WHERE WHAT IT READS IS OF BULK AT MOST 1048576: true; the input reads as it did. -/
def labelDeepUptoRow : OpenClaim := { program := "ytljkfobgbjnilaa", sum := "438f26106523ff945b45cdae80a4dbe70dbbdba6f32f539f63e7ee59174b20ce", func := "bridleway/bridlewaylaw06.LabelDeep", spec := "labelDeep", unfollowed := true, recurses := true, apart := false, narrowed := true }
def LabelDeepUptoSaid : Prop := labelDeepUptoRow.holds Try.pinned (OpenSpec.upto labelDeepSpec)

/-- 'bridlewaylaw06.LabelMore', WHERE WHAT IT READS IS OF BULK AT MOST 1048576: true; the input reads as it did. -/
def labelMoreUptoRow : OpenClaim := { program := "ytljkfobgbjnilaa", sum := "438f26106523ff945b45cdae80a4dbe70dbbdba6f32f539f63e7ee59174b20ce", func := "bridleway/bridlewaylaw06.LabelMore", spec := "labelMore", unfollowed := true, recurses := true, loops := true, apart := false, narrowed := true }
def LabelMoreUptoSaid : Prop := labelMoreUptoRow.holds Try.pinned (OpenSpec.upto labelMoreSpec)

/-- 'bridlewaylaw06.LabelWrong', WHERE WHAT IT READS IS OF BULK AT MOST 1048576: true; the input reads as it did. -/
def labelWrongUptoRow : OpenClaim := { program := "ytljkfobgbjnilaa", sum := "438f26106523ff945b45cdae80a4dbe70dbbdba6f32f539f63e7ee59174b20ce", func := "bridleway/bridlewaylaw06.LabelWrong", spec := "labelWrong", unfollowed := true, recurses := true, loops := true, apart := false, narrowed := true }
def LabelWrongUptoSaid : Prop := labelWrongUptoRow.holds Try.pinned (OpenSpec.upto labelWrongSpec)

/-- 'bridlewaylaw06.LabelAlone', WHERE WHAT IT READS IS OF BULK AT MOST 1048576: true; the input reads as it did. -/
def labelAloneUptoRow : OpenClaim := { program := "ytljkfobgbjnilaa", sum := "438f26106523ff945b45cdae80a4dbe70dbbdba6f32f539f63e7ee59174b20ce", func := "bridleway/bridlewaylaw06.LabelAlone", spec := "labelAlone", unfollowed := true, recurses := true, apart := false, narrowed := true }
def LabelAloneUptoSaid : Prop := labelAloneUptoRow.holds Try.pinned (OpenSpec.upto labelAloneSpec)

end Rows
end Go.Proofs.Ytljkfobgbjnilaa
