/- Walks: a pattern's machine is built. -/
import Derived.Test.YtjhkehloipmjfaaGreatQB
import Derived.Test.YtjhkehloipmjfaaGreatQI
import Derived.Test.YtjhkehloipmjfaaGreatWO
import Derived.Test.YtjhkehloipmjfaaGreatMF
import Derived.Test.YtjhkehloipmjfaaGreatQ0
import Derived.DeepKeys5
import Derived.WideKeyPair
import Derived.Maps.Keyed
set_option maxRecDepth 100000
set_option maxHeartbeats 4000000
namespace Go.Proofs.YtjhkehloipmjfaaGreat
open Go.RowKit
def encA (m : Mach) : List D := [.sl (m.elems.map encP), .sl (m.moves.map encMv), .v (.int .i64 m.states)]
theorem zfV {p : Pt} (h : nodesP p ≤ 20000) : fits (nodesP p) ⟨[], [], 2⟩ := ⟨by simpa using h, by simp only [List.length_nil]; omega, by decide, by show (2 : Int) + _ ≤ _; omega⟩
theorem zhT (p : Pt) (hs : shapeP p = true) (hn : nodesP p ≤ 20000) : CallsM Tryz.prog 11 [.dat (encP p)] [] (.dat (encA (buildM p))) [] := by
  have hL := zm2 p 0 1 ⟨[], [], 2⟩ hs (zfV hn)
  unfold buildM
  generalize layM p 0 1 ⟨[], [], 2⟩ = M at hL ⊢
  simp only [autoS, List.map_nil] at hL
  (refine zaR (Ty := Ty) zag Tryz.func11 rfl rfl rfl (by rfl) fun w0 S0 hp => ?_; simp only [argsF, List.zipIdx_cons, List.zipIdx_nil, List.map_cons, List.map_nil, Nat.zero_add])
  iterate 7 (first | refine zac ?_ | refine zaa ?_ | ((first | refine zab ?_ ); (first | change W _ _ _ _ _ )) | (refine isRL ?_; first | refine uBx ?_ | refine uN ?_))
  refine uBdZ ?_
  refine uAlO ?_
  refine uSo ?_
  refine uNilO 3 1001 0 34 20 ?_
  refine uNilO 3 1002 1 68 3 ?_
  refine uRn 3 1000 (zaS (hp 1000 rfl)) ?_
  repeat' (first | refine zac ?_ | refine zaa ?_ | ((first | refine zab ?_ | refine zae ?_); (first | change W _ _ _ _ _ | change EndM _ _ _ _ _ _ _ )) | (refine isRL ?_; first | (refine isLd ?_; first | refine uLb ?_ | refine uP ?_) | (refine isCl ?_; first | refine uM (hL) ?_ ) | (refine isSt ?_; first | refine uSw ?_ ) ))
  exact zcO (by rfl) rfl ghasA
end Go.Proofs.YtjhkehloipmjfaaGreat
namespace Go.Proofs.YtjhkehloipmjfaaGreat
open Go.RowKit
def encR (r : List Bool) : List D := [.sl (r.map encB)]
def fitAt (fit : List (List Bool)) (e x : Int) : Bool := hasB (fit[e.toNat]?.getD []) x.toNat
def staysB (m : Mach) (fit : List (List Bool)) (node : Int) (v : Mv) : Bool := v.elem == -1 || match m.elems[v.elem.toNat]? with
  | none => false
  | some p => p.kind == 1 && fitAt fit v.elem node
def goesB (m : Mach) (fit : List (List Bool)) (edge along : Int) (v : Mv) : Bool := v.elem != -1 && match m.elems[v.elem.toNat]? with
  | none => false
  | some p => p.kind == 2 && fitAt fit v.elem edge && ((IntKind.i64.wrap ((BitVec.ofInt IntKind.i64.bits p.dir &&& BitVec.ofInt IntKind.i64.bits along).toNat : Nat)) != 0)
structure FitOk (kd : Int) (m : Mach) (fit : List (List Bool)) (x : Int) : Prop where
  len : m.elems.length ≤ fit.length
  row : ∀ (i : Nat) (p : Pt) (r : List Bool), m.elems[i]? = some p → p.kind = kd → fit[i]? = some r → x < (r.length : Int)
  pos : 0 ≤ x
def elemOk (m : Mach) (v : Mv) : Prop := v.elem = -1 ∨ (0 ≤ v.elem ∧ v.elem < (m.elems.length : Int))
section
variable {kd : Int} {m : Mach} {fit : List (List Bool)} {x : Int} {v : Mv}
theorem elemOk.get (he : elemOk m v) (h1 : v.elem ≠ -1) : ∃ p, m.elems[v.elem.toNat]? = some p ∧ 0 ≤ v.elem := by
  obtain ⟨a1, a2⟩ := he.resolve_left h1
  exact ⟨_, List.getElem?_eq_getElem (by omega), a1⟩
theorem FitOk.get (h : FitOk kd m fit x) {p : Pt} (hp : m.elems[v.elem.toNat]? = some p) (hk : p.kind = kd) : ∃ (r : List Bool) (b : Bool), fit[v.elem.toNat]? = some r ∧ r[x.toNat]? = some b ∧ fitAt fit v.elem x = b := by
  have hl := h.len
  have hlt : v.elem.toNat < fit.length := by have := (List.getElem?_eq_some_iff.1 hp).1; omega
  have hrow := h.row _ p _ hp hk (List.getElem?_eq_getElem hlt)
  have h0 := h.pos
  have hx : x.toNat < (fit[v.elem.toNat]).length := by omega
  exact ⟨_, _, List.getElem?_eq_getElem hlt, List.getElem?_eq_getElem hx, by unfold fitAt; rw [List.getElem?_eq_getElem hlt]; exact zkN (List.getElem?_eq_getElem hx)⟩
end
theorem zlk (m : Mach) (fit : List (List Bool)) (v : Mv) (node : Int) (hf : FitOk 1 m fit node) (he : elemOk m v) : CallsV Tryz.prog 37 [.dat (encA m), vL (fit.map encR), .dat (encMv v), vI node] (.val (vB (staysB m fit node v))) := by
  have h0 := hf.pos
  unfold encA encMv
  by_cases h1 : v.elem = -1
  · have e : staysB m fit node v = true := by unfold staysB; rw [h1]; rfl
    rw [e]
    (refine zaj (Ty := Ty) zag Tryz.func37 rfl rfl rfl fun w0 S0 => ?_; simp only [argsF, List.zipIdx_cons, List.zipIdx_nil, List.map_cons, List.map_nil, Nat.zero_add])
    repeat' (first | refine zac ?_ | refine zaa ?_ | ((first | refine zab ?_ | refine zae ?_); (first | change W _ _ _ _ _ | change EndQ _ _ _ _ _ _ )) | (refine isRL ?_; first | refine uMv ?_ | refine uAs ?_ | refine uO ?_ | (refine isBin ?_; first | refine uBb true ?_ ) | (refine isLd ?_; first | refine uL1 ?_ ) | (refine isFa ?_; first | refine uP ?_) | refine uP ?_ | refine uBx ?_ ))
    exact zah (by rfl) rfl
  obtain ⟨p, q1, q5⟩ := he.get h1
  have e1 : staysB m fit node v = (p.kind == 1 && fitAt fit v.elem node) := by
    unfold staysB
    rw [q1, show (v.elem == -1) = false by simpa using h1]; rfl
  rw [e1]
  by_cases hk : p.kind = 1
  · obtain ⟨r, b, q2, q3, q4⟩ := hf.get q1 hk
    rw [q4, show (p.kind == 1) = true by simpa using hk]
    (refine zaj (Ty := Ty) zag Tryz.func37 rfl rfl rfl fun w0 S0 => ?_; simp only [argsF, List.zipIdx_cons, List.zipIdx_nil, List.map_cons, List.map_nil, Nat.zero_add])
    repeat' (first | refine zac ?_ | refine zaa ?_ | ((first | refine zab ?_ | refine zae ?_); (first | change W _ _ _ _ _ | change EndQ _ _ _ _ _ _ )) | (refine isRL ?_; first | refine uMv ?_ | refine uAs ?_ | (refine isBin ?_; first | refine uBb true ?_ | refine uBb false ?_ ) | (refine isLd ?_; first | refine uL1 ?_ | refine uL2 ?_ ) | (refine isFa ?_; first | refine uP ?_) | refine uX ?_ | refine uP ?_ | refine uBx ?_ ))
    exact zah (by rfl) rfl
  · rw [show (p.kind == 1) = false by simpa using hk]
    (refine zaj (Ty := Ty) zag Tryz.func37 rfl rfl rfl fun w0 S0 => ?_; simp only [argsF, List.zipIdx_cons, List.zipIdx_nil, List.map_cons, List.map_nil, Nat.zero_add])
    repeat' (first | refine zac ?_ | refine zaa ?_ | ((first | refine zab ?_ | refine zae ?_); (first | change W _ _ _ _ _ | change EndQ _ _ _ _ _ _ )) | (refine isRL ?_; first | refine uMv ?_ | refine uAs ?_ | refine uO ?_ | (refine isBin ?_; first | refine uBb false ?_ ) | (refine isLd ?_; first | refine uL1 ?_ | refine uL2 ?_ ) | (refine isFa ?_; first | refine uP ?_) | refine uX ?_ | refine uP ?_ | refine uBx ?_ ))
    exact zah (by rfl) rfl
theorem zmr (m : Mach) (fit : List (List Bool)) (v : Mv) (edge along : Int) (hf : FitOk 2 m fit edge) (he : elemOk m v) : CallsV Tryz.prog 39 [.dat (encA m), vL (fit.map encR), .dat (encMv v), vI edge, vI along] (.val (vB (goesB m fit edge along v))) := by
  have h0 := hf.pos
  unfold encA encMv
  by_cases h1 : v.elem = -1
  · have e : goesB m fit edge along v = false := by unfold goesB; rw [h1]; rfl
    rw [e]
    (refine zaj (Ty := Ty) zag Tryz.func39 rfl rfl rfl fun w0 S0 => ?_; simp only [argsF, List.zipIdx_cons, List.zipIdx_nil, List.map_cons, List.map_nil, Nat.zero_add])
    repeat' (first | refine zac ?_ | refine zaa ?_ | ((first | refine zab ?_ | refine zae ?_); (first | change W _ _ _ _ _ | change EndQ _ _ _ _ _ _ )) | (refine isRL ?_; first | refine uMv ?_ | refine uAs ?_ | refine uO ?_ | (refine isBin ?_; first | refine uBb false ?_ ) | (refine isLd ?_; first | refine uL1 ?_ ) | (refine isFa ?_; first | refine uP ?_) | refine uP ?_ | refine uBx ?_ ))
    exact zah (by rfl) rfl
  obtain ⟨p, q1, q5⟩ := he.get h1
  have e1 : goesB m fit edge along v = (p.kind == 2 && fitAt fit v.elem edge && ((IntKind.i64.wrap ((BitVec.ofInt IntKind.i64.bits p.dir &&& BitVec.ofInt IntKind.i64.bits along).toNat : Nat)) != 0)) := by
    unfold goesB
    rw [q1, show (v.elem != -1) = true by simpa using h1]; rfl
  rw [e1]
  by_cases hk : p.kind = 2
  · obtain ⟨r, b, q2, q3, q4⟩ := hf.get q1 hk
    rw [q4, show (p.kind == 2) = true by simpa using hk]
    cases b
    all_goals
      (refine zaj (Ty := Ty) zag Tryz.func39 rfl rfl rfl fun w0 S0 => ?_; simp only [argsF, List.zipIdx_cons, List.zipIdx_nil, List.map_cons, List.map_nil, Nat.zero_add])
      repeat' (first | refine zac ?_ | refine zaa ?_ | ((first | refine zab ?_ | refine zae ?_); (first | change W _ _ _ _ _ | change EndQ _ _ _ _ _ _ )) | (refine isRL ?_; first | refine uMv ?_ | refine uAs ?_ | refine uO ?_ | (refine isBin ?_; first | refine uBb true ?_ | refine uP ?_) | (refine isLd ?_; first | refine uL1 ?_ | refine uL2 ?_ ) | (refine isFa ?_; first | refine uP ?_) | refine uX ?_ | refine uP ?_ | refine uBx ?_ ))
      exact zah (by rfl) rfl
  · rw [show (p.kind == 2) = false by simpa using hk]
    (refine zaj (Ty := Ty) zag Tryz.func39 rfl rfl rfl fun w0 S0 => ?_; simp only [argsF, List.zipIdx_cons, List.zipIdx_nil, List.map_cons, List.map_nil, Nat.zero_add])
    repeat' (first | refine zac ?_ | refine zaa ?_ | ((first | refine zab ?_ | refine zae ?_); (first | change W _ _ _ _ _ | change EndQ _ _ _ _ _ _ )) | (refine isRL ?_; first | refine uMv ?_ | refine uAs ?_ | refine uO ?_ | (refine isBin ?_; first | refine uBb true ?_ | refine uBb false ?_ ) | (refine isLd ?_; first | refine uL1 ?_ | refine uL2 ?_ ) | (refine isFa ?_; first | refine uP ?_) | refine uX ?_ | refine uP ?_ | refine uBx ?_ ))
    exact zah (by rfl) rfl
end Go.Proofs.YtjhkehloipmjfaaGreat
namespace Go.Proofs.YtjhkehloipmjfaaGreat
open Go.RowKit
structure MachOk (m : Mach) (n : Nat) : Prop where
  st : m.states = (n : Int)
  small : n ≤ 1000000
  mv : m.moves.length ≤ 1000000
  inr : inR m.moves n
  el : ∀ v ∈ m.moves, elemOk m v
end Go.Proofs.YtjhkehloipmjfaaGreat
namespace Go.Proofs.YtjhkehloipmjfaaGreat
open Go.RowKit
theorem zg4 : ∀ p : Pt, CallsV Tryz.prog 26 [.dat (encP p)] (.val (vI (countP p))) := Pt.ind fun p ih => by
  have hL := zgz p.label
  have hW := zgz p.wher
  (refine zaj (Ty := Ty) zag Tryz.func26 rfl rfl rfl fun w0 S0 => ?_; simp only [argsF, List.zipIdx_cons, List.zipIdx_nil, List.map_cons, List.map_nil, Nat.zero_add])
  have hlm : (p.kids.map encP).length = p.kids.length := List.length_map _
  repeat (first | refine zac ?_ | refine zaa ?_ | ((first | refine zab ?_ ); (first | change W _ _ _ _ _ )) | (refine isRL ?_; first | refine uAs ?_ | refine uBx ?_ ) | refine zad ?_ | refine uAny ?_ | (refine isD ?_; first | refine mAs ?_ | (refine imBin ?_; first | refine mP ?_) | (refine imLd ?_; first | refine mL1 ?_ ) | (refine imCl ?_; first | refine mC (hL) ?_ | refine mC (hW) ?_ ) | (refine imFa ?_; first | refine mP ?_) ))
  refine zaL (α := Nat) (fun k => [(1, .one (.po 1 0)), (3, vI ((p.kids.take k).foldl (fun n q => IntKind.i64.wrap (n + countP q)) (IntKind.i64.wrap (IntKind.i64.wrap (1 + countE p.label) + countE p.wher)))), (4, vI k)]) (fun _ => [(1, .box 34 (encP p))]) (fun k => k ≤ p.kids.length) (fun k => p.kids.length - k) 0 (Nat.zero_le _) subA subA ?_
  intro k hk
  refine zfa (k := 1) (j := 19) (rows := p.kids.map encP) rfl (by rw [za9]; rfl) fun hlim => ?_
  by_cases hlt : k < p.kids.length
  · obtain ⟨q, hq⟩ : ∃ q, p.kids[k]? = some q := ⟨_, List.getElem?_eq_getElem hlt⟩
    have hQ := ih q (List.mem_of_getElem? hq)
    have hnx := zbt (g := fun (n : Int) q => IntKind.i64.wrap (n + countP q)) (b := IntKind.i64.wrap (IntKind.i64.wrap (1 + countE p.label) + countE p.wher)) hq
    repeat (first | refine zac ?_ | refine zaa ?_ | ((first | refine zab ?_ | refine zaf ?_ ); (first | change W _ _ _ _ _ | change Exists _ )) | (refine isRL ?_; first | refine uMv ?_ | refine uAs ?_ | (refine isBin ?_; first | refine uIb ?_ | refine uBb true ?_ | refine uP ?_) | (refine isLd ?_; first | refine uLp ?_ | refine uL1 ?_ ) | (refine isCl ?_; first | refine uC (hQ) ?_ | refine uP ?_) | (refine isFa ?_; first | refine uP ?_) | refine uX ?_ ) | refine zad ?_ | refine wT fun _ => ?_ )
    rw [← hnx]
    exact ⟨k + 1, by omega, hlt, subA, subA⟩
  · have hkl : k = p.kids.length := by omega
    subst hkl
    rw [List.take_length]
    repeat (first | refine zac ?_ | refine zaa ?_ | ((first | refine zab ?_ | refine zaD ?_ | refine zae ?_ ); (first | change W _ _ _ _ _ | change EndQ _ _ _ _ _ _ )) | (refine isRL ?_; first | refine uMv ?_ | refine uAs ?_ | (refine isBin ?_; first | refine uBb false ?_ ) | (refine isLd ?_; first | refine uL1 ?_ ) | (refine isCl ?_; first | refine uP ?_) | (refine isFa ?_; first | refine uP ?_) ) | refine wF fun _ => ?_ )
    exact zah (by rfl) (zaU (zjy p).symm)
end Go.Proofs.YtjhkehloipmjfaaGreat
namespace Go.Proofs.YtjhkehloipmjfaaGreat
open Go.RowKit
end Go.Proofs.YtjhkehloipmjfaaGreat
namespace Go.Proofs.YtjhkehloipmjfaaGreat
open Go.RowKit
theorem zkI (m : Mach) (fit : List (List Bool)) (v : Mv) (node : Int) (hf : FitOk 1 m fit node) (he : elemOk m v) : CallsV Tryz.prog 38 [.dat (encA m), vL (fit.map encR), .dat (encMv v), vI node] (.val (vB (staysB m fit node v))) := by
  have h0 := hf.pos
  unfold encA encMv
  by_cases h1 : v.elem = -1
  · have e : staysB m fit node v = true := by unfold staysB; rw [h1]; rfl
    rw [e]
    (refine zaj (Ty := Ty) zag Tryz.func38 rfl rfl rfl fun w0 S0 => ?_; simp only [argsF, List.zipIdx_cons, List.zipIdx_nil, List.map_cons, List.map_nil, Nat.zero_add])
    repeat' (first | refine zac ?_ | refine zaa ?_ | ((first | refine zab ?_ | refine zae ?_); (first | change W _ _ _ _ _ | change EndQ _ _ _ _ _ _ )) | (refine isRL ?_; first | refine uMv ?_ | refine uAs ?_ | refine uO ?_ | (refine isBin ?_; first | refine uBb true ?_ ) | (refine isLd ?_; first | refine uL1 ?_ ) | (refine isFa ?_; first | refine uP ?_) | refine uP ?_ | refine uBx ?_ ))
    exact zah (by rfl) rfl
  obtain ⟨p, q1, q5⟩ := he.get h1
  have e1 : staysB m fit node v = (p.kind == 1 && fitAt fit v.elem node) := by
    unfold staysB
    rw [q1, show (v.elem == -1) = false by simpa using h1]; rfl
  rw [e1]
  by_cases hk : p.kind = 1
  · obtain ⟨r, b, q2, q3, q4⟩ := hf.get q1 hk
    rw [q4, show (p.kind == 1) = true by simpa using hk]
    (refine zaj (Ty := Ty) zag Tryz.func38 rfl rfl rfl fun w0 S0 => ?_; simp only [argsF, List.zipIdx_cons, List.zipIdx_nil, List.map_cons, List.map_nil, Nat.zero_add])
    repeat' (first | refine zac ?_ | refine zaa ?_ | ((first | refine zab ?_ | refine zae ?_); (first | change W _ _ _ _ _ | change EndQ _ _ _ _ _ _ )) | (refine isRL ?_; first | refine uMv ?_ | refine uAs ?_ | (refine isBin ?_; first | refine uBb true ?_ | refine uBb false ?_ ) | (refine isLd ?_; first | refine uL1 ?_ | refine uL2 ?_ ) | (refine isFa ?_; first | refine uP ?_) | refine uX ?_ | refine uP ?_ | refine uBx ?_ ))
    exact zah (by rfl) rfl
  · rw [show (p.kind == 1) = false by simpa using hk]
    (refine zaj (Ty := Ty) zag Tryz.func38 rfl rfl rfl fun w0 S0 => ?_; simp only [argsF, List.zipIdx_cons, List.zipIdx_nil, List.map_cons, List.map_nil, Nat.zero_add])
    repeat' (first | refine zac ?_ | refine zaa ?_ | ((first | refine zab ?_ | refine zae ?_); (first | change W _ _ _ _ _ | change EndQ _ _ _ _ _ _ )) | (refine isRL ?_; first | refine uMv ?_ | refine uAs ?_ | refine uO ?_ | (refine isBin ?_; first | refine uBb false ?_ ) | (refine isLd ?_; first | refine uL1 ?_ | refine uL2 ?_ ) | (refine isFa ?_; first | refine uP ?_) | refine uX ?_ | refine uP ?_ | refine uBx ?_ ))
    exact zah (by rfl) rfl
end Go.Proofs.YtjhkehloipmjfaaGreat
namespace Go.Proofs.YtjhkehloipmjfaaGreat
open Go.RowKit
structure KeyT (P : Program) (kt : TypeId) (K : Value → Prop) : Prop where
  check : ∀ (w : World) (em : Bool) {v : Value}, K v → (Instr.checkKey em 10000 kt v).run P w = .ok () w
  find : ∀ (w : World) {x : Value}, K x → ∀ es : List MapEntry, (∀ e ∈ es, K e.key) → ((Instr.findKey kt x es).run P w = .ok none w ∧ ∀ e ∈ es, e.key ≠ x) ∨ ∃ j e, (Instr.findKey kt x es).run P w = .ok (some (j, e.val)) w ∧ es[j]? = some e ∧ e.key = x
  stays : ∀ (w : World) {v : Value}, K v → (Instr.keyThatStays v v).run P w = .ok v w
theorem KeyT.of {P : Program} {k : TypeId} (L : Go.WideMaps.KeyLaw P k) {K : Value → Prop} (hK : ∀ v, K v → ∃ l, keyOf P k v = some l) : KeyT P k K where
  check w em _ h := (hK _ h).elim fun _ h => (Go.Maps.Keyed.of_law L).check w em h
  find w _ h es hes := (hK _ h).elim fun _ h => (Go.Maps.Keyed.of_law L).find w h es fun e he => hK _ (hes e he)
  stays w _ h := (hK _ h).elim fun _ h => (Go.Maps.Keyed.of_law L).stays w h
theorem MapR.keys {S : Nat → Nat → Prop} {w : World} {es : List (Value × VV)} {ms : List MapEntry} (h : MapR S w es ms) {K : Value → Prop} (hK : ∀ p ∈ es, K p.1) : ∀ m ∈ ms, K m.key := fun m hm => by
  obtain ⟨j, hj⟩ := List.mem_iff_getElem?.1 hm
  obtain ⟨p, h1, h2, _⟩ := h.at hj
  rw [h2]; exact hK p (List.mem_of_getElem? h1)
theorem MapR.no {S : Nat → Nat → Prop} {w : World} {es : List (Value × VV)} {ms : List MapEntry} (h : MapR S w es ms) {key : Value} (hn : ∀ m ∈ ms, m.key ≠ key) : ∀ p ∈ es, p.1 ≠ key := fun p hp e => by
  obtain ⟨j, hj⟩ := List.mem_iff_getElem?.1 hp
  obtain ⟨m, g1, g2, _⟩ := h.2 j p hj
  exact hn m (List.mem_of_getElem? g1) (g2.trans e)
theorem zhq {P : Program} {w : World} {S : Nat → Nat → Prop} {r : Nat} {ms : List MapEntry} {clock : Nat} {mty kt et : TypeId} {K : Value → Prop} {key value : Value} {es : List (Value × VV)} {x : VV} (KT : KeyT P kt K) (hm : P.underlying mty = some (.map kt et)) (hb : w.heap[r]? = some (.map ms.toArray clock))
    (hR : MapR S w es ms) (hks : ∀ p ∈ es, K p.1) (hk : K key) (hx : ∀ (γ : Nat → Nat) (T : Nat → Value), RV γ T S w x value) :
    ∃ (ms' : List MapEntry) (clock' : Nat) (es' : List (Value × VV)), (Instr.mapUpdate mty (.map (some r)) key value).run P w = .ok () { w with heap := w.heap.setIfInBounds r (.map ms'.toArray clock') } ∧ MapR S w es' ms' ∧ ∀ p ∈ es', p = (key, x) ∨ p ∈ es := by
  rcases KT.find w hk ms (hR.keys hks) with ⟨h1, h2⟩ | ⟨j, e, h1, h2, h3⟩
  · refine ⟨ms ++ [{ key := key, val := value, born := clock }], clock + 1, es ++ [(key, x)], ?_, ⟨by simp [hR.1], fun i p hp => ?_⟩, fun p hp => ?_⟩
    · simp [Instr.mapUpdate, run_underlying hm, MapKept.run_getObj_map hb, KT.check w false hk, h1, MapKept.run_setObj_map _ hb, Result.andThen]
    · by_cases hi : i < es.length
      · rw [List.getElem?_append_left hi] at hp
        rw [List.getElem?_append_left (by rw [hR.1]; exact hi)]
        exact hR.2 i p hp
      · rw [List.getElem?_append_right (by omega)] at hp
        rw [List.getElem?_append_right (by rw [hR.1]; omega), hR.1]
        obtain ⟨i', hi'⟩ : ∃ i', i - es.length = i' := ⟨_, rfl⟩
        rw [hi'] at hp ⊢
        cases i' with
        | zero => simp only [List.getElem?_cons_zero, Option.some.injEq] at hp; subst hp; exact ⟨_, rfl, rfl, hx⟩
        | succ i' => simp at hp
    · rcases List.mem_append.1 hp with h | h
      · exact .inr h
      · exact .inl (by simpa using h)
  · have hj : ms.toArray[j]? = some e := by simpa using h2
    refine ⟨ms.set j { e with key := key, val := value }, clock, es.set j (key, x), ?_, ⟨by simp [hR.1], fun i q hq => ?_⟩, fun p hp => ?_⟩
    · have hmod : (ms.modify j fun e => { e with key := key, val := value }) = ms.set j { e with key := key, val := value } := by
        apply List.ext_getElem?
        intro i
        rw [List.getElem?_modify, List.getElem?_set]
        by_cases hi : j = i
        · subst hi
          obtain ⟨h5, h6⟩ := List.getElem?_eq_some_iff.1 h2
          simp [h5, h6]
        · simp [hi]
      simp [Instr.mapUpdate, run_underlying hm, MapKept.run_getObj_map hb, KT.check w false hk, h1, h2, h3, KT.stays w hk, MapKept.run_setObj_map _ hb, Result.andThen]
      rw [hmod]
    · obtain ⟨p, g1, _, _⟩ := hR.at h2
      rw [List.getElem?_set] at hq
      rw [List.getElem?_set]
      by_cases hi : j = i
      · rw [if_pos hi] at hq
        rw [if_pos hi]
        have hlt : j < es.length := (List.getElem?_eq_some_iff.1 g1).1
        rw [if_pos (by omega)] at hq
        rw [if_pos (by rw [hR.1]; omega)]
        injection hq with hq; subst hq
        exact ⟨_, rfl, rfl, hx⟩
      · rw [if_neg hi] at hq
        rw [if_neg hi]
        exact hR.2 i q hq
    · rcases List.mem_or_eq_of_mem_set hp with h | h
      · exact .inr h
      · exact .inl h
def pl (a b : Int) : Value := .agg #[.int .i64 a, .int .i64 b]
theorem zmB {a b c d : Int} (h : pl a b = pl c d) : a = c ∧ b = d := by
  unfold pl at h
  simp only [Value.agg.injEq, Array.mk.injEq, List.cons.injEq, Value.int.injEq, true_and, and_true] at h
  exact h
section
variable {X : Ctx} {γ : Nat → Nat} {T : Nat → Value} {S : Nat → Nat → Prop} {w : World} {fr : Fr} {σ : Obs} {ops : Array Oper} {o : Oper} {rest : List Oper} {Q : Fr → Obs → Prop}
theorem zgE {x v : Value} {a b : Int} (hx : x = pl a b) (hv : RV γ T S w (.dat [.v (.int .i64 a), .v (.int .i64 b)]) v) : v = x := by
  cases hv with
  | dat h =>
    rename_i us
    obtain ⟨hl, hu⟩ := h
    obtain ⟨u0, e0, r0⟩ := hu 0 _ rfl
    obtain ⟨u1, e1, r1⟩ := hu 1 _ rfl
    cases r0; cases r1
    match us, hl, e0, e1 with
    | [a', b'], _, e0, e1 =>
      simp only [List.getElem?_cons_zero, List.getElem?_cons_succ, Option.some.injEq] at e0 e1
      subst e0; subst e1; subst hx; rfl
theorem zl5 {k : Nat} {t kt et : TypeId} {m kx xx : Operand} {es : List (Value × VV)} {K : Value → Prop} {a0 b0 : Int} {x : VV} (KT : KeyT X.P kt K) (hw : wantA ops o fr = some true) (hdst : o.dst = none) (ho : o.op = .mapUpdate t m kx xx) (hm : ev fr m = some (.one (.mr k))) (hk : look σ k = some (.mp es)) (hkx : ev fr kx = some (.dat [.v (.int .i64 a0), .v (.int .i64 b0)])) (hxx : ev fr xx = some x) (hraw : rawV x = true)
    (ht : X.P.underlying t = some (.map kt et)) (hks : ∀ p ∈ es, K p.1) (hkey : K (pl a0 b0))
    (h : ∀ es' : List (Value × VV), (∀ p ∈ es', p = (pl a0 b0, x) ∨ p ∈ es) → RL X ops rest fr ((k, .mp es') :: σ) Q) : RL X ops (o :: rest) fr σ Q :=
  ⟨fun γ T S w a K hr hkk => wpList_step fun K' hK => by
    rw [if_pos (zau hr hw)]
    obtain ⟨ms, clock, g1, g2, g3, g4, g5⟩ := hr.st.obj k _ hk
    have hv := zak hr hm
    cases hv with
    | one hv =>
      have hev : a.eval m = .map (some (γ k)) := hv
      have hkv : a.eval kx = pl a0 b0 := zgE rfl (zak hr hkx)
      obtain ⟨ms', clock', es', hrun, hR, hes⟩ := zhq (P := X.P) (x := x) (value := a.eval xx) KT ht g1 g2 hks hkey fun γ' T' => zeZ hraw (zak hr hxx)
      have hexec : (execOp a.eval o).run X.P w = .ok .skip { w with heap := w.heap.setIfInBounds (γ k) (.map ms'.toArray clock') } := by
        simp only [execOp, ho, hev, hkv, Sem.run_bind, hrun, Result.andThen_ok, Sem.run_pure]
      have honly : OnlyAt w { w with heap := w.heap.setIfInBounds (γ k) (.map ms'.toArray clock') } (γ k) := ⟨rfl, rfl, rfl, by simp, fun b hb => (MapKept.heap_set g1).2 b hb⟩
      unfold Oper.wp
      rw [hexec]
      refine hK _ _ ?_
      have hkp : Kp S w { w with heap := w.heap.setIfInBounds (γ k) (.map ms'.toArray clock') } := fun b o x hs hc => by
        rw [World.cell?_of_block (honly.block b fun e => g3 o (e ▸ hs))]; exact hc
      have := (hr.chg (ob' := .mp es') hk rfl rfl honly ⟨ms', clock', (MapKept.heap_set g1).1, ⟨hR.1, fun j p hp => by
        obtain ⟨m, q1, q2, q3⟩ := hR.2 j p hp
        exact ⟨m, q1, q2, fun γ' T' => (q3 γ' T').mono (fun _ _ hs => hs) hkp⟩⟩, g3, g4, g5⟩).1
      have h9 := (h es' hes).out γ T S _ a _ this hkk
      rw [hdst]
      exact h9⟩
theorem zin {a : Act} {m kx : Operand} {k : Nat} {t kt et : TypeId} {es : List (Value × VV)} {K : Value → Prop} {a0 b0 : Int} {z : Value} (KT : KeyT X.P kt K) (ho : o.op = .lookup t m kx true) (ht : X.P.underlying t = some (.map kt et)) (hz : ∀ w, (zeroValue et).run X.P w = .ok z w) (hr : Rel X γ T S w fr σ a) (hm : ev fr m = some (.one (.mr k))) (hk : look σ k = some (.mp es)) (hkx : ev fr kx = some (.dat [.v (.int .i64 a0), .v (.int .i64 b0)])) (hks : ∀ p ∈ es, K p.1) (hkey : K (pl a0 b0)) :
    ((execOp a.eval o).run X.P w = .ok (.value (.tuple #[z, .bool false])) w ∧ ∀ p ∈ es, p.1 ≠ pl a0 b0) ∨ ∃ p ∈ es, p.1 = pl a0 b0 ∧ ∃ v, RV γ T S w p.2 v ∧ (execOp a.eval o).run X.P w = .ok (.value (.tuple #[v, .bool true])) w := by
  obtain ⟨ms, clock, g1, g2, g3, g4, g5⟩ := hr.st.obj k _ hk
  have g2 : MapR S w es ms := g2
  have hv := zak hr hm
  cases hv with
  | one hv =>
    have hev : a.eval m = .map (some (γ k)) := hv
    have hkv : a.eval kx = pl a0 b0 := zgE rfl (zak hr hkx)
    rcases KT.find w hkey ms (g2.keys hks) with ⟨h1, h2⟩ | ⟨j, e, h1, h2, h3⟩
    · refine .inl ⟨?_, g2.no h2⟩
      simp [execOp, ho, hev, hkv, Instr.lookup, run_underlying ht, MapKept.run_getObj_map g1, KT.check w _ hkey, h1, hz, Result.andThen]
    · obtain ⟨p, q1, q2, q3⟩ := g2.at h2
      refine .inr ⟨p, List.mem_of_getElem? q1, q2 ▸ h3, e.val, q3 γ T, ?_⟩
      simp [execOp, ho, hev, hkv, Instr.lookup, run_underlying ht, MapKept.run_getObj_map g1, KT.check w _ hkey, h1, Result.andThen]
theorem tup2 {x y : VV} {u v : Value} (hx : RV γ T S w x u) (hy : RV γ T S w y v) : RV γ T S w (.tup [x, y]) (.tuple #[u, v]) :=
  .tup [x, y] [u, v] rfl fun j x' u' h1 h2 => by
    match j, h1, h2 with
    | 0, h1, h2 => simp only [List.getElem?_cons_zero, Option.some.injEq] at h1 h2; subst h1; subst h2; exact hx
    | 1, h1, h2 => simp only [List.getElem?_cons_zero, List.getElem?_cons_succ, Option.some.injEq] at h1 h2; subst h1; subst h2; exact hy
variable {τ0 σB : Obs} {K : List Cr} {C0 : Cons} {QD : Fr → Obs → Prop} {i0 : Nat}
theorem zlj {m kx : Operand} {k d : Nat} {t kt et : TypeId} {es : List (Value × VV)} {KK : Value → Prop} {a0 b0 : Int} {z : Value} {x : VV} {b : Bool} (KT : KeyT X.P kt KK) (hw : wantA ops o (restr ops o fr) = some true) (hdst : o.dst = some d) (hd : Nat.blt d X.nt = true) (ho : o.op = .lookup t m kx true) (ht : X.P.underlying t = some (.map kt et)) (hz : ∀ w, (zeroValue et).run X.P w = .ok z w) (hz1 : z.oneCell' = true) (hx : ev (restr ops o fr) m = some (.one (.mr k))) (hk : look σB k = some (.mp es)) (hkx : ev (restr ops o fr) kx = some (.dat [.v (.int .i64 a0), .v (.int .i64 b0)])) (hks : ∀ p ∈ es, KK p.1) (hkey : KK (pl a0 b0))
    (hgot : if b = true then (∃ p ∈ es, p.1 = pl a0 b0) ∧ ∀ p ∈ es, p.1 = pl a0 b0 → p.2 = x else (∀ p ∈ es, p.1 ≠ pl a0 b0) ∧ x = .one (.d (.v z))) (hm : MenOk o K (.tup [x, .one (.d (.v (.bool b)))]))
    (h : DSeq X ops τ0 σB QD (i0 + 1) K C0 rest ((d, .tup [x, .one (.d (.v (.bool b)))]) :: fr)) : DSeq X ops τ0 σB QD i0 K C0 (o :: rest) fr :=
  zbI hdst hd hm (.inr ⟨hw, fun γ T S w a hr => .inl (by
    rcases zin KT ho ht hz hr hx hk hkx hks hkey with ⟨h1, h2⟩ | ⟨p, hp, h1, v, h2, h3⟩
    · cases b with
      | true => rw [if_pos rfl] at hgot; obtain ⟨⟨p, hp, e⟩, _⟩ := hgot; exact absurd e (h2 p hp)
      | false =>
        rw [if_neg (by decide)] at hgot
        obtain ⟨_, rfl⟩ := hgot
        exact ⟨_, w, h1, S, zbc S w, tup2 (.one (.v _ hz1)) (.one (.v _ rfl))⟩
    · cases b with
      | true =>
        rw [if_pos rfl] at hgot
        rw [hgot.2 p hp h1] at h2
        exact ⟨_, w, h3, S, zbc S w, tup2 h2 (.one (.v _ rfl))⟩
      | false => rw [if_neg (by decide)] at hgot; exact absurd h1 (hgot.1 p hp))⟩) h
end
section
variable {w0 : W0} {S0 : Nat → Nat → Prop} {nt : Nat} {fr fr1 : Fr} {σ σ1 σ2 τ0 τ1 σB : Obs} {o : Oper} {ops : Array Oper} {rest : List Oper} {Q : Fr → Obs → Prop} {d k : Nat} {xx : Operand} {QQ : Exit → Fr → Obs → Prop} {QD : Fr → Obs → Prop} {KK : List Cr} {C0 : Cons} {j0 : Nat} {t kt et : TypeId}
theorem zjk {P : Program} {k e : TypeId} {f0 f1 : Field} (hu : P.underlying k = some (.struct #[f0, f1])) (he : P.underlying e = some (.int .i64)) (t0 : f0.type = e) (t1 : f1.type = e) (o0 : f0.offset = 0) (o1 : f1.offset = 1) (n0 : (f0.name != "_") = true) (n1 : (f1.name != "_") = true) (c : P.cellsOf k = 2) (ce : P.cellsOf e = 1) (hkt : P.keyType k = true) (hsz : ∃ m, P.types.size = m + 1) {a b : Int} (wa : (Lit.int .i64 a).wf = true) (wb : (Lit.int .i64 b).wf = true) :
    keyOf P k (pl a b) = some (.string (keyBytes [.int .i64 a, .int .i64 b])) := by
  obtain ⟨m, hm⟩ := hsz
  unfold keyOf pl
  simp only [hu]
  rw [if_pos (by simp [hkt, Value.formed, hu, c]), hm]
  unfold Program.keyLits
  simp only [hu, Value.cells]
  rw [if_pos ⟨by rw [c]; rfl, by simp [n0, n1]⟩]
  simp [List.mapM_cons, List.mapM_nil, t0, t1, o0, o1, ce, Program.keyLits, he, wa, wb]
def IsPl (v : Value) : Prop := ∃ a b : Int, v = pl a b ∧ (Lit.int .i64 a).wf = true ∧ (Lit.int .i64 b).wf = true
theorem zfn : KeyT Tryz.prog 98 IsPl :=
  KeyT.of (deep_law_gate (by kernel_rfl) (of_decide_eq_true (by kernel_rfl)) (of_decide_eq_true (by kernel_rfl)) (by kernel_rfl) (by kernel_rfl)) fun v ⟨a, b, h, ha, hb⟩ => h ▸ ⟨_, zjk (e := 3) rfl rfl rfl rfl rfl rfl (by decide) (by decide) (by kernel_rfl) (by kernel_rfl) (by kernel_rfl) ⟨Tryz.prog.types.size - 1, by kernel_rfl⟩ ha hb⟩
theorem uMuS {m kx : Operand} {es : List (Value × VV)} {a0 b0 : Int} {x : VV} (hks : ∀ p ∈ es, IsPl p.1) (hkey : IsPl (pl a0 b0)) (h : ∀ es' : List (Value × VV), (∀ p ∈ es', p = (pl a0 b0, x) ∨ p ∈ es) → RL (cx nt w0 S0) ops rest fr ((k, .mp es') :: σ) Q) (ho : o.op = .mapUpdate 93 m kx xx := by rfl) (hw : wantA ops o fr = some true := by rfl) (hdst : o.dst = none := by rfl) (hm : ev fr m = some (.one (.mr k)) := by rfl) (hk : look σ k = some (.mp es) := by rfl) (hkx : ev fr kx = some (.dat [.v (.int .i64 a0), .v (.int .i64 b0)]) := by rfl) (hxx : ev fr xx = some x := by rfl) (hraw : rawV x = true := by rfl) : RL (cx nt w0 S0) ops (o :: rest) fr σ Q :=
  zl5 (X := cx nt w0 S0) zfn hw hdst ho hm hk hkx hxx hraw (et := 3) rfl hks hkey h
theorem zkp (w : World) : (zeroValue 3).run Tryz.prog w = .ok (.int .i64 0) w := by rfl
theorem mLookS {m kx : Operand} {es : List (Value × VV)} {a0 b0 : Int} {x : VV} {b : Bool} (hks : ∀ p ∈ es, IsPl p.1) (hkey : IsPl (pl a0 b0)) (hgot : if b = true then (∃ p ∈ es, p.1 = pl a0 b0) ∧ ∀ p ∈ es, p.1 = pl a0 b0 → p.2 = x else (∀ p ∈ es, p.1 ≠ pl a0 b0) ∧ x = vI 0)
    (h : DSeq (cx nt w0 S0) ops τ0 σB QD (j0 + 1) KK C0 rest ((d, .tup [x, vB b]) :: fr)) (ho : o.op = .lookup 93 m kx true := by rfl) (hx : ev (restr ops o fr) m = some (.one (.mr k)) := by rfl) (hk : look σB k = some (.mp es) := by rfl) (hkx : ev (restr ops o fr) kx = some (.dat [.v (.int .i64 a0), .v (.int .i64 b0)]) := by rfl) (hw : wantA ops o (restr ops o fr) = some true := by rfl) (hdst : o.dst = some d := by rfl) (hd : Nat.blt d nt = true := by rfl) (hm : MenOk o KK (.tup [x, vB b]) := by (repeat (first | exact zaO _ _ | refine zaK (by first | exact Or.inl rfl | exact Or.inr rfl) ?_))) : DSeq (cx nt w0 S0) ops τ0 σB QD j0 KK C0 (o :: rest) fr :=
  zlj (X := cx nt w0 S0) zfn hw hdst hd ho (et := 3) rfl zkp rfl hx hk hkx hks hkey hgot hm h
end
end Go.Proofs.YtjhkehloipmjfaaGreat
