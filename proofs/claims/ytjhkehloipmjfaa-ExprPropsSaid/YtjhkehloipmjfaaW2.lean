/- One operation on abstract values. -/
import Derived.Test.YtjhkehloipmjfaaW1
namespace Go.Proofs.Ytjhkehloipmjfaa
open Go.RowKit
def isNil : Value → Bool
  | .slice none 0 0 => true
  | _ => false
/-- a nil slice, as data -/
def zc (v : Value) : D := if isNil v then .sl [] else .v v
def nz : D → D
  | .v x => zc x
  | d => d
def constV : Value → Option VV
  | .agg cs => if cs.all (·.oneCell') then some (.dat (cs.toList.map zc)) else none
  | .tuple _ => none
  | v => some (.one (.d (.v v)))
def ev (fr : Fr) : Operand → Option VV
  | .tmp t => look fr t
  | .const v => constV v
  | .func f => some (.one (.fn f []))
  | .global _ => none
def rowsV : VV → Option (List (List D))
  | .one (.d (.sl r)) => some r
  | .one (.own _ r) => some r
  | .one (.d (.v x)) => if isNil x then some [] else none
  | _ => none
/-- a cell as data, if it is -/
def dataC : C → Option D
  | .d x => some x
  | .own _ r => some (.sl r)
  | _ => none
def dataCs : List C → Option (List D)
  | [] => some []
  | c :: cs => match dataC c, dataCs cs with
    | some d, some ds => some (d :: ds)
    | _, _ => none
def cellsV : VV → Option (List D)
  | .one (.d x) => some [nz x]
  | .one (.own _ r) => some [.sl r]
  | .dat cs => some cs
  | .ag cs => dataCs cs
  | _ => none
def strV : VV → Option ByteArray
  | .one (.d (.v (.string s))) => some s
  | _ => none
def intV : VV → Option Int
  | .one (.d (.v (.int _ n))) => some n
  | _ => none
structure Out where
  x : VV
  fr : Fr
  σ : Obs
def newOb (k : Nat) (ob : Ob) (fr : Fr) (σ : Obs) : Out := ⟨.one (.po k 0), stripF k fr, (k, ob) :: stripS k σ⟩
def loadA (i : TyI) (cs : List D) (o : Nat) : Option VV :=
  if i.agg = true then (if o = 0 ∧ cs.length = i.size then some (.dat cs) else if o + i.size ≤ cs.length then some (.dat ((cs.drop o).take i.size)) else none)
  else match cs[o]? with
    | some x => some (.one (.d x))
    | none => none
def partC (cs : List C) : VV := match dataCs cs with
  | some ds => .dat ds
  | none => .ag cs
def loadC (i : TyI) (cs : List C) (o : Nat) : Option VV :=
  if i.agg = true then (if o = 0 ∧ cs.length = i.size then some (partC cs) else if o + i.size ≤ cs.length then some (partC ((cs.drop o).take i.size)) else none)
  else match cs[o]? with
    | some c => some (.one c)
    | none => none
def cellsC : VV → Option (List C)
  | .one (.d x) => some [.d (nz x)]
  | .one c => some [c]
  | .dat cs => some (cs.map .d)
  | .ag cs => some cs
  | _ => none
def spliceC (cs : List C) (o : Nat) : List C → List C
  | [d] => cs.set o d
  | ds => if o = 0 ∧ ds.length = cs.length then ds else cs.take o ++ ds ++ cs.drop (o + ds.length)
def splice (cs : List D) (o : Nat) : List D → List D
  | [d] => cs.set o d
  | ds => if o = 0 ∧ ds.length = cs.length then ds else cs.take o ++ ds ++ cs.drop (o + ds.length)
/-- pure results on plain values -/
def abin (bt : Bool) : BinOp → Value → Value → Option Value
  | .add, .int k a, .int k' b => if k = k' then some (.int k (k.wrap (a + b))) else none
  | .sub, .int k a, .int k' b => if k = k' then some (.int k (k.wrap (a - b))) else none
  | .mul, .int k a, .int k' b => if k = k' then some (.int k (k.wrap (a * b))) else none
  | .rem, .int k a, .int k' b => if k = k' ∧ b ≠ 0 then some (.int k (a.tmod b)) else none
  | .eql, .int k a, .int k' b => if k = k' then some (.bool (a == b)) else none
  | .neq, .int k a, .int k' b => if k = k' then some (.bool (a != b)) else none
  | .lss, .int k a, .int k' b => if k = k' then some (.bool (decide (a < b))) else none
  | .leq, .int k a, .int k' b => if k = k' then some (.bool (decide (a ≤ b))) else none
  | .gtr, .int k a, .int k' b => if k = k' then some (.bool (decide (a > b))) else none
  | .geq, .int k a, .int k' b => if k = k' then some (.bool (decide (a ≥ b))) else none
  | .eql, .string a, .string b => some (.bool (a.toList == b.toList))
  | .neq, .string a, .string b => some (.bool (!(a.toList == b.toList)))
  | .lss, .string a, .string b => some (.bool (Op.bytesLess a.toList b.toList))
  | .leq, .string a, .string b => some (.bool (Op.bytesLess a.toList b.toList || a.toList == b.toList))
  | .gtr, .string a, .string b => some (.bool (!(Op.bytesLess a.toList b.toList || a.toList == b.toList)))
  | .geq, .string a, .string b => some (.bool (!Op.bytesLess a.toList b.toList))
  | .add, .string a, .string b => if a.size + b.size ≤ 9223372036854775807 then some (.string (a ++ b)) else none
  | .eql, .bool a, .bool b => if bt = true then some (.bool (a == b)) else none
  | .neq, .bool a, .bool b => if bt = true then some (.bool (!(a == b))) else none
  | .eql, .float k a, .float k' b => if k = k' then some (.bool (Op.floatEq k a b)) else none
  | .neq, .float k a, .float k' b => if k = k' then some (.bool (!Op.floatEq k a b)) else none
  | .lss, .float k a, .float k' b => if k = k' then some (.bool (k.format.order a b == some .lt)) else none
  | .leq, .float k a, .float k' b => if k = k' then some (.bool (k.format.order a b == some .lt || k.format.order a b == some .eq)) else none
  | .gtr, .float k a, .float k' b => if k = k' then some (.bool (k.format.order a b == some .gt)) else none
  | .geq, .float k a, .float k' b => if k = k' then some (.bool (k.format.order a b == some .gt || k.format.order a b == some .eq)) else none
  | .xor, .int k a, .int k' b => if k = k' then some (.int k (k.wrap (BitVec.ofInt k.bits a ^^^ BitVec.ofInt k.bits b).toNat)) else none
  | .and, .int k a, .int k' b => if k = k' then some (.int k (k.wrap (BitVec.ofInt k.bits a &&& BitVec.ofInt k.bits b).toNat)) else none
  | .shr, .int k a, .int _ b => if 0 ≤ b then some (.int k (a.fdiv (2 ^ min b.toNat k.bits))) else none
  | _, _, _ => none
def isTag (n : Nat) : Option TyI → Bool
  | some i => Nat.beq i.tag n
  | none => false
def aun : UnOp → Value → Option Value
  | .not, .bool b => some (.bool !b)
  | .neg, .int k n => some (.int k (k.wrap (0 - n)))
  | _, _ => none
/-- the parts of a struct laid over its zero -/
def layF (places : List (Nat × Nat)) (fr : Fr) : List (Nat × Operand) → List D → Option (List D)
  | [], cs => some cs
  | (f, x) :: ps, cs => match places[f]?, (ev fr x).bind cellsV with
    | some (o, s), some ds => if ds.length = s ∧ o + s ≤ cs.length then layF places fr ps (splice cs o ds) else none
    | _, _ => none
/-- the rows of a slice that is written out whole, in order -/
def layR (sz : Nat) (fr : Fr) : Nat → List (Nat × Operand) → Option (List (List D))
  | _, [] => some []
  | n, (i, x) :: ps => match (ev fr x).bind cellsV with
    | some ds => if i = n ∧ ds.length = sz then (layR sz fr (n + 1) ps).map (ds :: ·) else none
    | none => none
def capK (fr : Fr) : List Operand → Option (List Nat)
  | [] => some []
  | x :: xs => match ev fr x with
    | some (.one (.po k 0)) => (capK fr xs).map (k :: ·)
    | _ => none
def optI (fr : Fr) : Option Operand → Option (Option Int)
  | none => some none
  | some x => ((ev fr x).bind intV).map some
def alen (X : Ctx) (t : TypeId) (x : Operand) (fr : Fr) (σ : Obs) : Option Out :=
  match X.Ty t, ev fr x with
  | some i, some v => match strV v with
    | some s => if i.tag = 3 then some ⟨.one (.d (.v (.int .i64 s.size))), fr, σ⟩ else none
    | none => match rowsV v with
      | some rows => if i.tag = 2 then some ⟨.one (.d (.v (.int .i64 rows.length))), fr, σ⟩ else none
      | none => none
  | _, _ => none
def amin (x y : Operand) (fr : Fr) (σ : Obs) : Option Out :=
  match ev fr x, ev fr y with
  | some (.one (.d (.v (.int k a)))), some (.one (.d (.v (.int _ b)))) => some ⟨.one (.d (.v (.int k (if b < a then b else a)))), fr, σ⟩
  | _, _ => none
def amax (x y : Operand) (fr : Fr) (σ : Obs) : Option Out :=
  match ev fr x, ev fr y with
  | some (.one (.d (.v (.int k a)))), some (.one (.d (.v (.int _ b)))) => some ⟨.one (.d (.v (.int k (if b > a then b else a)))), fr, σ⟩
  | _, _ => none
def acall (X : Ctx) (c : Call) (fr : Fr) (σ : Obs) : Option Out :=
  match c.callee with
  | .builtin b => match b, c.args.toList, c.argTypes.toList with
    | .len, [x], [t] => alen X t x fr σ
    | .min, [x, y], _ => amin x y fr σ
    | .max, [x, y], _ => amax x y fr σ
    | _, _, _ => none
  | _ => none
def aop (X : Ctx) (o : Oper) (fr : Fr) (σ : Obs) : Option Out :=
  match o.op with
  | .move x | .assign x => (ev fr x).map fun v => ⟨v, fr, σ⟩
  | .pick c a b => match ev fr c with
    | some (.one (.d (.v (.bool true)))) => (ev fr a).map fun v => ⟨v, fr, σ⟩
    | some (.one (.d (.v (.bool false)))) => (ev fr b).map fun v => ⟨v, fr, σ⟩
    | _ => none
  | .alloc t => match o.dst, X.Ty t with
    | some k, some i => if i.agg = true ∨ Nat.blt k X.nt = true then some (newOb k (if i.agg = true then .box t (i.zero.map zc) else .cell t (.d (.v (i.zero.headD undef)))) fr σ) else none
    | _, _ => none
  | .box t x => match o.dst, X.Ty t with
    | some k, some i => match i.agg, ev (stripF k fr) x with
      | true, some (.dat cs) => if cs.length = i.size then some (newOb k (.box t cs) fr σ) else none
      | false, some (.one c) => if Nat.blt k X.nt = true then some (newOb k (.cell t c) fr σ) else none
      | _, _ => none
    | _, _ => none
  | .load t p => match X.Ty t, ev fr p with
    | some i, some (.one (.po k o)) => match look σ k with
      | some (.box _ cs) => (loadA i cs o).map fun v => ⟨v, fr, σ⟩
      | some (.cell _ c) => if i.agg = false ∧ o = 0 then some ⟨.one c, fr, σ⟩ else none
      | some (.obj _ cs) => (loadC i cs o).map fun v => ⟨v, fr, σ⟩
      | _ => none
    | some i, some (.one (.d (.pi cs))) => (loadA i cs 0).map fun v => ⟨v, fr, σ⟩
    | _, _ => none
  | .store t p x => match X.Ty t, ev fr p, ev fr x, o.dst with
    | some i, some (.one (.po k o)), some v, none => match look σ k with
      | some (.box ty cs) => match cellsV v with
        | some ds => if ds.length = i.size ∧ o + i.size ≤ cs.length then some ⟨.junk, fr, (k, .box ty (splice cs o ds)) :: σ⟩ else none
        | none => none
      | some (.cell ty _) => match v with
        | .one c => if i.size = 1 ∧ o = 0 then some ⟨.junk, fr, (k, .cell ty c) :: σ⟩ else none
        | _ => none
      | some (.obj ty cs) => match cellsC v with
        | some ds => if ds.length = i.size ∧ o + i.size ≤ cs.length then some ⟨.junk, fr, (k, .obj ty (spliceC cs o ds)) :: σ⟩ else none
        | none => none
      | _ => none
    | _, _, _, _ => none
  | .fieldAddr t p f => match X.Ty t, ev fr p with
    | some i, some (.one (.po k o)) => match i.places[f]? with
      | some (off, s) => if s = 0 ∨ i.tag ≠ 1 then none else some ⟨.one (.po k (o + off)), fr, σ⟩
      | none => none
    | some i, some (.one (.d (.pi cs))) => match i.places[f]? with
      | some (off, s) => if s = 0 ∨ i.tag ≠ 1 then none else some ⟨.one (.d (.pi (cs.drop off))), fr, σ⟩
      | none => none
    | _, _ => none
  | .indexAddr t x ix => match X.Ty t, (ev fr x).bind rowsV, (ev fr ix).bind intV with
    | some i, some rows, some n => match X.Ty i.elem, rows[n.toNat]? with
      | some e, some q => if 0 ≤ n ∧ q.length = e.size ∧ i.tag = 2 then some ⟨.one (.d (.pi q)), fr, σ⟩ else none
      | _, _ => none
    | _, _, _ => none
  | .index t x ix => match X.Ty t, (ev fr x).bind strV, (ev fr ix).bind intV with
    | some i, some s, some n => match s.data.toList[n.toNat]? with
      | some b => if 0 ≤ n ∧ i.tag = 3 then some ⟨.one (.d (.v (.int .u8 b.toNat))), fr, σ⟩ else none
      | none => none
    | _, _, _ => none
  | .binOp op t x y _ => match ev fr x, ev fr y with
    | some (.one (.d (.v a))), some (.one (.d (.v b))) => (abin (isTag 5 (X.Ty t)) op a b).map fun v => ⟨.one (.d (.v v)), fr, σ⟩
    | _, _ => none
  | .unOp op _ x => match ev fr x with
    | some (.one (.d (.v a))) => (aun op a).map fun v => ⟨.one (.d (.v v)), fr, σ⟩
    | _ => none
  | .convert s t x => match X.Ty s, X.Ty t, ev fr x with
    | some _, some i, some (.one (.d (.v (.int _ n)))) => match i.kind with
      | some k => some ⟨.one (.d (.v (.int k (k.wrap n)))), fr, σ⟩
      | none => none
    | _, _, _ => none
  | .build t ps => match X.Ty t with
    | some i => if i.tag = 1 then (layF i.places fr ps.toList (i.zero.map zc)).map fun cs => ⟨.dat cs, fr, σ⟩ else none
    | none => none
  | .buildSlice t n ps => match o.dst, X.Ty t with
    | some k, some i => match X.Ty i.elem with
      | some e => match layR e.size (stripF k fr) 0 ps.toList with
        | some rows => if n = rows.length ∧ n * e.size ≤ 16777216 ∧ i.tag = 2 then some ⟨.one (.own k rows), stripF k fr, (k, .tok i.elem e.size) :: stripS k σ⟩ else none
        | none => none
      | none => none
    | _, _ => none
  | .makeFunc fn first caps => match fn, first.toList with
    | .func f, [] => (capK fr caps.toList).map fun ks => ⟨.one (.fn f ks), fr, σ⟩
    | _, _ => none
  | .slice t x lo hi none => match X.Ty t, optI fr lo, optI fr hi, ev fr x with
    | some i, some l, some h, some v => match strV v with
      | some s => if i.tag = 3 ∧ 0 ≤ l.getD 0 ∧ l.getD 0 ≤ h.getD s.size ∧ h.getD s.size ≤ s.size then some ⟨.one (.d (.v (.string (s.extract (l.getD 0).toNat (h.getD s.size).toNat)))), fr, σ⟩ else none
      | none => match rowsV v with
        | some rows => match X.Ty i.elem with
          | some e => if i.tag = 2 ∧ 0 ≤ l.getD 0 ∧ l.getD 0 ≤ h.getD rows.length ∧ h.getD rows.length ≤ rows.length ∧ rows.all (fun q => Nat.beq q.length e.size) = true then some ⟨.one (.d (.sl ((rows.take (h.getD rows.length).toNat).drop (l.getD 0).toNat))), fr, σ⟩ else none
          | none => none
        | none => none
    | _, _, _, _ => none
  | .extract t i => match ev fr t with
    | some (.tup l) => match l[i]? with
      | some x => some ⟨x, fr, σ⟩
      | none => none
    | _ => none
  | .call c => acall X c fr σ
  | _ => none
/-- What the operation yields, in whatever world bears the frame. -/
def Sound (X : Ctx) (o : Oper) (fr : Fr) (σ : Obs) (r : Out) : Prop :=
  ∀ γ T S w a, Rel X γ T S w fr σ a → ∃ γ' T' S' w' v, ((execOp a.eval o).run X.P w = .ok (.value v) w' ∨ ((execOp a.eval o).run X.P w = .ok .skip w' ∧ v = undef)) ∧ Rel X γ' T' S' w' r.fr r.σ a ∧ RV γ' T' S' w' r.x v
end Go.Proofs.Ytjhkehloipmjfaa
