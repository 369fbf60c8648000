/- The walks of package label's functions: Word, bare, kinds, term, Right; and slices.IndexFunc, ContainsFunc over expressions. -/
import Derived.Test.YtjhkehloipmjfaaA1
import Derived.MapKept
import Derived.Test.YtjhkehloipmjfaaWS
namespace Go.Proofs.Ytjhkehloipmjfaa
open Go.RowKit
section
variable {P : Program} {ops : Array Oper} {rest : List Oper} {o : Oper} {a : Act} {w : World} {Q : Exit → Act → World → Prop}
end
end Go.Proofs.Ytjhkehloipmjfaa
/- The walk of label.Right. -/
namespace Go.Proofs.Ytjhkehloipmjfaa
open Go.RowKit
section
variable {P : Program} {ops : Array Oper} {rest : List Oper} {o : Oper} {a : Act} {w : World} {Q : Exit → Act → World → Prop}
end
end Go.Proofs.Ytjhkehloipmjfaa
/- label.Right, told in abstract values. -/
namespace Go.Proofs.Ytjhkehloipmjfaa
open Go.RowKit
section
variable {S S' : Nat → Nat → Prop} {w w' : World}
theorem args1 {x : VV} {vs : List Value} (h : ArgsR S w [x] vs) : ∃ v, vs = [v] ∧ PV S w x v := by
  obtain ⟨hl, hr⟩ := h
  match vs, hl with
  | [v], _ => exact ⟨v, rfl, hr 0 x v rfl rfl⟩
theorem pv_v {x v : Value} (h : PV S w (.one (.d (.v x))) v) : v = x := val_sound (h (fun _ => 0) (fun _ => undef))
end
end Go.Proofs.Ytjhkehloipmjfaa
