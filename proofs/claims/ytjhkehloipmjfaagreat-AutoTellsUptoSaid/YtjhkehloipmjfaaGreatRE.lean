/- A nil slice written into a part of an object: the part is known as nil. -/
import Derived.Test.YtjhkehloipmjfaaGreatMC
import Derived.Test.YtjhkehloipmjfaaGreatRO
import Derived.Test.YtjhkehloipmjfaaGreatRL
import Derived.Test.YtjhkehloipmjfaaGreatG1
set_option maxRecDepth 100000
set_option maxHeartbeats 8000000
namespace Go.Proofs.YtjhkehloipmjfaaGreat
open Go.RowKit
section
variable {X : Ctx} {γ : Nat → Nat} {T : Nat → Value} {S : Nat → Nat → Prop} {w : World} {fr : Fr} {σ : Obs} {ops : Array Oper} {o : Oper} {rest : List Oper} {Q : Fr → Obs → Prop}
end
section
variable {nt : Nat} {w0 : W0} {S0 : Nat → Nat → Prop} {fr : Fr} {σ : Obs} {ops : Array Oper} {o : Oper} {rest : List Oper} {Q : Fr → Obs → Prop}
end
end Go.Proofs.YtjhkehloipmjfaaGreat
namespace Go.Proofs.YtjhkehloipmjfaaGreat
open Go.RowKit
theorem zky (s : ByteArray) : ∃ z : Int, CallsV Tryz.prog 172 [vS s] (.val (vI z)) ∧ (z = 1 ∨ z = 2 ∨ z = -1) := by
  by_cases g0 : (s.toList == ByteArray.toList ⟨#[61]⟩) = true
  · exact ⟨2, by ((refine zaj (Ty := Ty) zag Tryz.func172 rfl rfl rfl fun w0 S0 => ?_; simp only [argsF, List.zipIdx_cons, List.zipIdx_nil, List.map_cons, List.map_nil, Nat.zero_add])); (repeat' (first | refine zac ?_ | refine zaa ?_ | ((first | refine zab ?_ | refine zaf ?_ | refine zae ?_); (first | change W _ _ _ _ _ | skip)) | (refine isRL ?_; first | refine uMv ?_ | refine uAs ?_ | (refine isBin ?_; first | refine uBb true ?_ ) ) | refine zad ?_ | refine wT fun _ => ?_ )); (exact zah (by rfl) rfl), .inr (.inl rfl)⟩
  rw [Bool.not_eq_true] at g0
  by_cases g1 : (s.toList == ByteArray.toList ⟨#[60, 62]⟩) = true
  · exact ⟨2, by ((refine zaj (Ty := Ty) zag Tryz.func172 rfl rfl rfl fun w0 S0 => ?_; simp only [argsF, List.zipIdx_cons, List.zipIdx_nil, List.map_cons, List.map_nil, Nat.zero_add])); (repeat' (first | refine zac ?_ | refine zaa ?_ | ((first | refine zab ?_ | refine zaf ?_ | refine zae ?_); (first | change W _ _ _ _ _ | skip)) | (refine isRL ?_; first | refine uMv ?_ | refine uAs ?_ | (refine isBin ?_; first | refine uBb true ?_ | refine uBb false ?_ ) ) | refine zad ?_ | refine wT fun _ => ?_ | refine wF fun _ => ?_ )); (exact zah (by rfl) rfl), .inr (.inl rfl)⟩
  rw [Bool.not_eq_true] at g1
  by_cases g2 : (s.toList == ByteArray.toList ⟨#[60]⟩) = true
  · exact ⟨2, by ((refine zaj (Ty := Ty) zag Tryz.func172 rfl rfl rfl fun w0 S0 => ?_; simp only [argsF, List.zipIdx_cons, List.zipIdx_nil, List.map_cons, List.map_nil, Nat.zero_add])); (repeat' (first | refine zac ?_ | refine zaa ?_ | ((first | refine zab ?_ | refine zaf ?_ | refine zae ?_); (first | change W _ _ _ _ _ | skip)) | (refine isRL ?_; first | refine uMv ?_ | refine uAs ?_ | (refine isBin ?_; first | refine uBb true ?_ | refine uBb false ?_ ) ) | refine zad ?_ | refine wT fun _ => ?_ | refine wF fun _ => ?_ )); (exact zah (by rfl) rfl), .inr (.inl rfl)⟩
  rw [Bool.not_eq_true] at g2
  by_cases g3 : (s.toList == ByteArray.toList ⟨#[60, 61]⟩) = true
  · exact ⟨2, by ((refine zaj (Ty := Ty) zag Tryz.func172 rfl rfl rfl fun w0 S0 => ?_; simp only [argsF, List.zipIdx_cons, List.zipIdx_nil, List.map_cons, List.map_nil, Nat.zero_add])); (repeat' (first | refine zac ?_ | refine zaa ?_ | ((first | refine zab ?_ | refine zaf ?_ | refine zae ?_); (first | change W _ _ _ _ _ | skip)) | (refine isRL ?_; first | refine uMv ?_ | refine uAs ?_ | (refine isBin ?_; first | refine uBb true ?_ | refine uBb false ?_ ) ) | refine zad ?_ | refine wT fun _ => ?_ | refine wF fun _ => ?_ )); (exact zah (by rfl) rfl), .inr (.inl rfl)⟩
  rw [Bool.not_eq_true] at g3
  by_cases g4 : (s.toList == ByteArray.toList ⟨#[62]⟩) = true
  · exact ⟨2, by ((refine zaj (Ty := Ty) zag Tryz.func172 rfl rfl rfl fun w0 S0 => ?_; simp only [argsF, List.zipIdx_cons, List.zipIdx_nil, List.map_cons, List.map_nil, Nat.zero_add])); (repeat' (first | refine zac ?_ | refine zaa ?_ | ((first | refine zab ?_ | refine zaf ?_ | refine zae ?_); (first | change W _ _ _ _ _ | skip)) | (refine isRL ?_; first | refine uMv ?_ | refine uAs ?_ | (refine isBin ?_; first | refine uBb true ?_ | refine uBb false ?_ ) ) | refine zad ?_ | refine wT fun _ => ?_ | refine wF fun _ => ?_ )); (exact zah (by rfl) rfl), .inr (.inl rfl)⟩
  rw [Bool.not_eq_true] at g4
  by_cases g5 : (s.toList == ByteArray.toList ⟨#[62, 61]⟩) = true
  · exact ⟨2, by ((refine zaj (Ty := Ty) zag Tryz.func172 rfl rfl rfl fun w0 S0 => ?_; simp only [argsF, List.zipIdx_cons, List.zipIdx_nil, List.map_cons, List.map_nil, Nat.zero_add])); (repeat' (first | refine zac ?_ | refine zaa ?_ | ((first | refine zab ?_ | refine zaf ?_ | refine zae ?_); (first | change W _ _ _ _ _ | skip)) | (refine isRL ?_; first | refine uMv ?_ | refine uAs ?_ | (refine isBin ?_; first | refine uBb true ?_ | refine uBb false ?_ ) ) | refine zad ?_ | refine wT fun _ => ?_ | refine wF fun _ => ?_ )); (exact zah (by rfl) rfl), .inr (.inl rfl)⟩
  rw [Bool.not_eq_true] at g5
  by_cases g6 : (s.toList == ByteArray.toList ⟨#[97, 110, 100]⟩) = true
  · exact ⟨2, by ((refine zaj (Ty := Ty) zag Tryz.func172 rfl rfl rfl fun w0 S0 => ?_; simp only [argsF, List.zipIdx_cons, List.zipIdx_nil, List.map_cons, List.map_nil, Nat.zero_add])); (repeat' (first | refine zac ?_ | refine zaa ?_ | ((first | refine zab ?_ | refine zaf ?_ | refine zae ?_); (first | change W _ _ _ _ _ | skip)) | (refine isRL ?_; first | refine uMv ?_ | refine uAs ?_ | (refine isBin ?_; first | refine uBb true ?_ | refine uBb false ?_ ) ) | refine zad ?_ | refine wT fun _ => ?_ | refine wF fun _ => ?_ )); (exact zah (by rfl) rfl), .inr (.inl rfl)⟩
  rw [Bool.not_eq_true] at g6
  by_cases g7 : (s.toList == ByteArray.toList ⟨#[111, 114]⟩) = true
  · exact ⟨2, by ((refine zaj (Ty := Ty) zag Tryz.func172 rfl rfl rfl fun w0 S0 => ?_; simp only [argsF, List.zipIdx_cons, List.zipIdx_nil, List.map_cons, List.map_nil, Nat.zero_add])); (repeat' (first | refine zac ?_ | refine zaa ?_ | ((first | refine zab ?_ | refine zaf ?_ | refine zae ?_); (first | change W _ _ _ _ _ | skip)) | (refine isRL ?_; first | refine uMv ?_ | refine uAs ?_ | (refine isBin ?_; first | refine uBb true ?_ | refine uBb false ?_ ) ) | refine zad ?_ | refine wT fun _ => ?_ | refine wF fun _ => ?_ )); (exact zah (by rfl) rfl), .inr (.inl rfl)⟩
  rw [Bool.not_eq_true] at g7
  by_cases g8 : (s.toList == ByteArray.toList ⟨#[43]⟩) = true
  · exact ⟨2, by ((refine zaj (Ty := Ty) zag Tryz.func172 rfl rfl rfl fun w0 S0 => ?_; simp only [argsF, List.zipIdx_cons, List.zipIdx_nil, List.map_cons, List.map_nil, Nat.zero_add])); (repeat' (first | refine zac ?_ | refine zaa ?_ | ((first | refine zab ?_ | refine zaf ?_ | refine zae ?_); (first | change W _ _ _ _ _ | skip)) | (refine isRL ?_; first | refine uMv ?_ | refine uAs ?_ | (refine isBin ?_; first | refine uBb true ?_ | refine uBb false ?_ ) ) | refine zad ?_ | refine wT fun _ => ?_ | refine wF fun _ => ?_ )); (exact zah (by rfl) rfl), .inr (.inl rfl)⟩
  rw [Bool.not_eq_true] at g8
  by_cases g9 : (s.toList == ByteArray.toList ⟨#[45]⟩) = true
  · exact ⟨2, by ((refine zaj (Ty := Ty) zag Tryz.func172 rfl rfl rfl fun w0 S0 => ?_; simp only [argsF, List.zipIdx_cons, List.zipIdx_nil, List.map_cons, List.map_nil, Nat.zero_add])); (repeat' (first | refine zac ?_ | refine zaa ?_ | ((first | refine zab ?_ | refine zaf ?_ | refine zae ?_); (first | change W _ _ _ _ _ | skip)) | (refine isRL ?_; first | refine uMv ?_ | refine uAs ?_ | (refine isBin ?_; first | refine uBb true ?_ | refine uBb false ?_ ) ) | refine zad ?_ | refine wT fun _ => ?_ | refine wF fun _ => ?_ )); (exact zah (by rfl) rfl), .inr (.inl rfl)⟩
  rw [Bool.not_eq_true] at g9
  by_cases g10 : (s.toList == ByteArray.toList ⟨#[42]⟩) = true
  · exact ⟨2, by ((refine zaj (Ty := Ty) zag Tryz.func172 rfl rfl rfl fun w0 S0 => ?_; simp only [argsF, List.zipIdx_cons, List.zipIdx_nil, List.map_cons, List.map_nil, Nat.zero_add])); (repeat' (first | refine zac ?_ | refine zaa ?_ | ((first | refine zab ?_ | refine zae ?_); (first | change W _ _ _ _ _ | skip)) | (refine isRL ?_; first | refine uMv ?_ | refine uAs ?_ | (refine isBin ?_; first | refine uBb true ?_ | refine uBb false ?_ ) ) | refine zad ?_ | refine wT fun _ => ?_ | refine wF fun _ => ?_ )); (exact zah (by rfl) rfl), .inr (.inl rfl)⟩
  rw [Bool.not_eq_true] at g10
  by_cases g11 : (s.toList == ByteArray.toList ⟨#[110, 111, 116]⟩) = true
  · exact ⟨1, by ((refine zaj (Ty := Ty) zag Tryz.func172 rfl rfl rfl fun w0 S0 => ?_; simp only [argsF, List.zipIdx_cons, List.zipIdx_nil, List.map_cons, List.map_nil, Nat.zero_add])); (repeat' (first | refine zac ?_ | refine zaa ?_ | ((first | refine zab ?_ | refine zaf ?_ | refine zae ?_); (first | change W _ _ _ _ _ | skip)) | (refine isRL ?_; first | refine uMv ?_ | refine uAs ?_ | (refine isBin ?_; first | refine uBb true ?_ | refine uBb false ?_ ) ) | refine zad ?_ | refine wT fun _ => ?_ | refine wF fun _ => ?_ )); (exact zah (by rfl) rfl), .inl rfl⟩
  rw [Bool.not_eq_true] at g11
  by_cases g12 : (s.toList == ByteArray.toList ⟨#[105, 115, 110, 117, 108, 108]⟩) = true
  · exact ⟨1, by ((refine zaj (Ty := Ty) zag Tryz.func172 rfl rfl rfl fun w0 S0 => ?_; simp only [argsF, List.zipIdx_cons, List.zipIdx_nil, List.map_cons, List.map_nil, Nat.zero_add])); (repeat' (first | refine zac ?_ | refine zaa ?_ | ((first | refine zab ?_ | refine zae ?_); (first | change W _ _ _ _ _ | skip)) | (refine isRL ?_; first | refine uMv ?_ | refine uAs ?_ | (refine isBin ?_; first | refine uBb true ?_ | refine uBb false ?_ ) ) | refine zad ?_ | refine wT fun _ => ?_ | refine wF fun _ => ?_ )); (exact zah (by rfl) rfl), .inl rfl⟩
  rw [Bool.not_eq_true] at g12
  exact ⟨-1, by ((refine zaj (Ty := Ty) zag Tryz.func172 rfl rfl rfl fun w0 S0 => ?_; simp only [argsF, List.zipIdx_cons, List.zipIdx_nil, List.map_cons, List.map_nil, Nat.zero_add])); (repeat' (first | refine zac ?_ | refine zaa ?_ | ((first | refine zab ?_ | refine zaf ?_ | refine zae ?_); (first | change W _ _ _ _ _ | change EndQ _ _ _ _ _ _ )) | (refine isRL ?_; first | refine uMv ?_ | refine uAs ?_ | (refine isBin ?_; first | refine uBb false ?_ ) ) | refine zad ?_ | refine wF fun _ => ?_ )); (exact zah (by rfl) rfl), .inr (.inr rfl)⟩
theorem zkw : ∀ (e : E) (n : Int), CallsN Tryz.prog 143 [.dat (encE e), vI n] [] OneI := E.ind fun e ih n => by
  have hlm : (e.kids.map encE).length = e.kids.length := List.length_map _
  (refine zam (Ty := Ty) zag Tryz.func143 rfl rfl rfl (by rfl) fun w0 S0 hp => ?_; simp only [argsF, List.zipIdx_cons, List.zipIdx_nil, List.map_cons, List.map_nil, Nat.zero_add])
  by_cases h0 : n = 0
  · repeat' (first | refine zac ?_ | refine zaa ?_ | ((first | refine zab ?_ | refine zae ?_); (first | change W _ _ _ _ _ | change Exists _ )) | (refine isRL ?_; first | refine uMv ?_ | refine uAs ?_ | (refine isBin ?_; first | refine uBb true ?_ ) | refine uBx ?_ ) | refine wT fun _ => ?_ )
    exact zaw (by rfl) rfl ghasA ⟨_, rfl, rfl, trivial⟩
  repeat' (first | refine zac ?_ | refine zaa ?_ | ((first | refine zab ?_ | refine zaf ?_ ); (first | change W _ _ _ _ _ )) | (refine isRL ?_; first | refine uMv ?_ | refine uAs ?_ | (refine isBin ?_; first | refine uBb false ?_ ) | refine uBx ?_ ) | refine zad ?_ | refine wF fun _ => ?_ )
  refine zaL (α := Nat × Int) (fun x => [(1, vI n), (2, .one (.po 2 0)), (5, vI x.2), (6, vI x.1)]) (fun _ => [(2, .box 31 (encE e))]) (fun x => x.1 ≤ e.kids.length) (fun x => e.kids.length - x.1) (0, 0) (Nat.zero_le _) subA subA ?_
  rintro ⟨k, out⟩ hk
  dsimp only at hk ⊢
  refine zfa (k := 2) (j := 6) (rows := e.kids.map encE) rfl (by rw [zbi]; rfl) fun hlim => ?_
  rw [hlm] at hlim
  by_cases hlt : k < e.kids.length
  · obtain ⟨q, hq⟩ : ∃ q, e.kids[k]? = some q := ⟨_, List.getElem?_eq_getElem hlt⟩
    have hQ := ih q (List.mem_of_getElem? hq)
    repeat' (first | refine zac ?_ | refine zaa ?_ | ((first | refine zab ?_ | refine zaf ?_ ); (first | change W _ _ _ _ _ | change Exists _ )) | (refine isRL ?_; first | refine uNx (hQ _) (fun i _ => ?_) | refine uMv ?_ | refine uAs ?_ | (refine isBin ?_; first | refine uIb ?_ | refine uBb true ?_ | refine uP ?_) | (refine isLd ?_; first | refine uLp ?_ | refine uL1 ?_ ) | (refine isCl ?_; first | refine uP ?_) | (refine isFa ?_; first | refine uP ?_) | refine uX ?_ ) | refine zad ?_ | refine wT fun _ => ?_ )
    exact ⟨(k + 1, _), by dsimp only; omega, by dsimp only; omega, subA, subA⟩
  · repeat' (first | refine zac ?_ | refine zaa ?_ | ((first | refine zab ?_ | refine zaD ?_ | refine zae ?_); (first | change W _ _ _ _ _ | change EndN _ _ _ _ _ _ )) | (refine isRL ?_; first | refine uMv ?_ | refine uAs ?_ | (refine isBin ?_; first | refine uBb false ?_ | refine uP ?_) | (refine isLd ?_; first | refine uL1 ?_ ) | (refine isCl ?_; first | refine uP ?_) | (refine isFa ?_; first | refine uP ?_) ) | refine wF fun _ => ?_ )
    exact zaw (by rfl) rfl ghasA ⟨_, rfl, rfl, trivial⟩
inductive ShE : E → Prop
  | mk (e : E) (h1 : e.kind = 1 ∨ e.kind = 2 ∨ (e.kind = 3 ∧ (e.kids.length = 1 ∨ e.kids.length = 2))) (hk : e.kind = 3 → ∀ k ∈ e.kids, ShE k) : ShE e
theorem ziw : ∀ (e : E), CallsN Tryz.prog 144 [.dat (encE e)] [] (BoolP (ShE e)) := E.ind fun e ih => by
  have hlm : (e.kids.map encE).length = e.kids.length := List.length_map _
  obtain ⟨z, hz⟩ : ∃ z, zeroV ⟨e.val.kind, e.val.n, e.val.f, e.val.s⟩ = z := ⟨_, rfl⟩
  obtain ⟨kz, hK, hkz⟩ := zky e.name
  have hR := zcF e.val
  by_cases k3 : e.kind = 3
  rotate_left
  · have hsh : e.kind = 1 ∨ e.kind = 2 → ShE e := fun h => .mk e (by omega) (fun h3 => absurd h3 k3)
    by_cases k1 : e.kind = 1
    · have hs := hsh (.inl k1)
      cases z <;> (
        (refine zam (Ty := Ty) zag Tryz.func144 rfl rfl rfl (by rfl) fun w0 S0 hp => ?_; simp only [argsF, List.zipIdx_cons, List.zipIdx_nil, List.map_cons, List.map_nil, Nat.zero_add])
        repeat' (first | refine zac ?_ | refine zaa ?_ | ((first | refine zab ?_ | refine zae ?_ ); (first | change W _ _ _ _ _ | change Exists _ )) | (refine isRL ?_; first | refine uMv ?_ | refine uAs ?_ | refine uO ?_ | (refine isBin ?_; first | refine uBb true ?_ | refine uP ?_ | refine uEq true ?_ | refine uEq false ?_) | (refine isLd ?_; first | refine uL1 ?_ ) | (refine isCl ?_; first | refine uC (hR) ?_ | refine uP ?_) | (refine isFa ?_; first | refine uP ?_) | (refine isBd ?_; first | refine uBd ?_ ) | refine uP ?_ | refine uBx ?_ | ((first | refine uGsD ?_ ?_ | refine uGs ?_ ?_) <;> intro hb)) | refine zad ?_ | refine wT fun _ => ?_ )
        all_goals exact zaw (by rfl) rfl ghasA ⟨_, rfl, rfl, fun _ => hs⟩)
    by_cases k2 : e.kind = 2
    · have hs := hsh (.inr k2)
      cases z <;> (
        (refine zam (Ty := Ty) zag Tryz.func144 rfl rfl rfl (by rfl) fun w0 S0 hp => ?_; simp only [argsF, List.zipIdx_cons, List.zipIdx_nil, List.map_cons, List.map_nil, Nat.zero_add])
        repeat' (first | refine zac ?_ | refine zaa ?_ | ((first | refine zab ?_ | refine zae ?_ ); (first | change W _ _ _ _ _ | change Exists _ )) | (refine isRL ?_; first | refine uMv ?_ | refine uAs ?_ | refine uO ?_ | (refine isBin ?_; first | refine uBb true ?_ | refine uBb false ?_ | refine uP ?_ | refine uEq true ?_ | refine uEq false ?_) | (refine isLd ?_; first | refine uL1 ?_ ) | (refine isCl ?_; first | refine uP ?_) | (refine isFa ?_; first | refine uP ?_) | (refine isBd ?_; first | refine uBd ?_ ) | refine uP ?_ | refine uBx ?_ | ((first | refine uGsD ?_ ?_ | refine uGsNB ?_ ?_ ) <;> intro hb)) | refine zad ?_ | refine wT fun _ => ?_ | refine wF fun _ => ?_ )
        all_goals exact zaw (by rfl) rfl ghasA ⟨_, rfl, rfl, fun _ => hs⟩)
    cases z <;> (
      (refine zam (Ty := Ty) zag Tryz.func144 rfl rfl rfl (by rfl) fun w0 S0 hp => ?_; simp only [argsF, List.zipIdx_cons, List.zipIdx_nil, List.map_cons, List.map_nil, Nat.zero_add])
      repeat' (first | refine zac ?_ | refine zaa ?_ | ((first | refine zab ?_ | refine zaf ?_ | refine zae ?_ ); (first | change W _ _ _ _ _ | change EndN _ _ _ _ _ _ )) | (refine isRL ?_; first | refine uAs ?_ | (refine isBin ?_; first | refine uBb false ?_ | refine uEq true ?_ | refine uEq false ?_) | (refine isLd ?_; first | refine uL1 ?_ ) | (refine isFa ?_; first | refine uP ?_) | (refine isBd ?_; first | refine uBd ?_ ) | refine uBx ?_ ) | refine zad ?_ | refine wF fun _ => ?_ )
      all_goals exact zaw (by rfl) rfl ghasA ⟨_, rfl, rfl, fun h => by cases h⟩)
  cases z with
  | false =>
    (refine zam (Ty := Ty) zag Tryz.func144 rfl rfl rfl (by rfl) fun w0 S0 hp => ?_; simp only [argsF, List.zipIdx_cons, List.zipIdx_nil, List.map_cons, List.map_nil, Nat.zero_add])
    repeat' (first | refine zac ?_ | refine zaa ?_ | ((first | refine zab ?_ | refine zae ?_ | refine mN ?_); (first | change W _ _ _ _ _ | change Exists _ )) | (refine isRL ?_; first | refine uAs ?_ | (refine isBin ?_; first | refine uBb true ?_ | refine uBb false ?_ | refine uEq false ?_) | (refine isLd ?_; first | refine uL1 ?_ ) | (refine isFa ?_; first | refine uP ?_) | (refine isBd ?_; first | refine uBd ?_ ) | refine uBx ?_ ) | refine zad ?_ | refine wT fun _ => ?_ | refine wF fun _ => ?_ | refine uAny ?_ | (refine isD ?_; first | refine mMv ?_ | refine mO ?_ | refine mBu true ?_ | refine mP ?_ ) )
    all_goals exact zaw (by rfl) rfl ghasA ⟨_, rfl, rfl, fun h => by cases h⟩
  | true =>
    by_cases hkl : kz = (e.kids.length : Int)
    rotate_left
    · (refine zam (Ty := Ty) zag Tryz.func144 rfl rfl rfl (by rfl) fun w0 S0 hp => ?_; simp only [argsF, List.zipIdx_cons, List.zipIdx_nil, List.map_cons, List.map_nil, Nat.zero_add])
      repeat' (first | refine zac ?_ | refine zaa ?_ | ((first | refine zab ?_ | refine zae ?_ | refine mN ?_); (first | change W _ _ _ _ _ | change Exists _ )) | (refine isRL ?_; first | refine uAs ?_ | (refine isBin ?_; first | refine uBb true ?_ | refine uBb false ?_ | refine uEq true ?_ ) | (refine isLd ?_; first | refine uL1 ?_ ) | (refine isFa ?_; first | refine uP ?_) | (refine isBd ?_; first | refine uBd ?_ ) | refine uBx ?_ ) | refine zad ?_ | refine wT fun _ => ?_ | refine wF fun _ => ?_ | refine uAny ?_ | (refine isD ?_; first | refine mMv ?_ | (refine imBin ?_; first | refine mBb true ?_ ) | (refine imLd ?_; first | refine mL1 ?_ ) | (refine imCl ?_; first | refine mC (hK) ?_ | refine mP ?_) | (refine imFa ?_; first | refine mP ?_) | refine mBu false ?_ | refine mP ?_ ) )
      all_goals exact zaw (by rfl) rfl ghasA ⟨_, rfl, rfl, fun h => by cases h⟩
    have hsh : (∀ k ∈ e.kids, ShE k) → ShE e := fun h => .mk e (.inr (.inr ⟨k3, by omega⟩)) fun _ => h
    (refine zam (Ty := Ty) zag Tryz.func144 rfl rfl rfl (by rfl) fun w0 S0 hp => ?_; simp only [argsF, List.zipIdx_cons, List.zipIdx_nil, List.map_cons, List.map_nil, Nat.zero_add])
    repeat' (first | refine zac ?_ | refine zaa ?_ | ((first | refine zab ?_ | refine zaf ?_ | refine mN ?_); (first | change W _ _ _ _ _ )) | (refine isRL ?_; first | refine uAs ?_ | (refine isBin ?_; first | refine uBb true ?_ | refine uBb false ?_ | refine uEq true ?_ ) | (refine isLd ?_; first | refine uL1 ?_ ) | (refine isFa ?_; first | refine uP ?_) | (refine isBd ?_; first | refine uBd ?_ ) | refine uBx ?_ ) | refine zad ?_ | refine wT fun _ => ?_ | refine wF fun _ => ?_ | refine uAny ?_ | (refine isD ?_; first | refine mMv ?_ | (refine imBin ?_; first | refine mBb false ?_ ) | (refine imLd ?_; first | refine mL1 ?_ ) | (refine imCl ?_; first | refine mC (hK) ?_ | refine mP ?_) | (refine imFa ?_; first | refine mP ?_) | refine mBu false ?_ | refine mP ?_ ) )
    refine zaL (α := Nat) (fun i => [(1, .one (.po 1 0)), (4, vI i)]) (fun _ => [(1, .box 31 (encE e))]) (fun i => i ≤ e.kids.length ∧ ∀ (j : Nat) (q : E), j < i → e.kids[j]? = some q → ShE q) (fun i => e.kids.length - i) 0 ⟨Nat.zero_le _, fun j q hj => absurd hj (by omega)⟩ subA subA ?_
    intro i ⟨hi, hok⟩
    by_cases hlt : i < e.kids.length
    · obtain ⟨q, hq⟩ : ∃ q, e.kids[i]? = some q := ⟨_, List.getElem?_eq_getElem (by omega)⟩
      have hQ := ih q (List.mem_of_getElem? hq)
      repeat' (first | refine zac ?_ | refine zaa ?_ | ((first | refine zab ?_ | refine zaf ?_ | refine zae ?_ ); (first | change W _ _ _ _ _ | change Exists _ )) | (refine isRL ?_; first | refine uNx hQ (fun b hbq => ?_) | refine uMv ?_ | refine uAs ?_ | (refine isBin ?_; first | refine uIb ?_ | refine uBb true ?_ ) | (refine isLd ?_; first | refine uLp ?_ | refine uL1 ?_ ) | (refine isCl ?_; first | refine uP ?_) | (refine isFa ?_; first | refine uP ?_) | refine uX ?_ | refine uP ?_ ) | refine zad ?_ | refine wT fun _ => ?_ | ((first | refine wCsNB ?_ ?_ ) <;> intro hb))
      · exact zaw (by rfl) rfl ghasA ⟨_, rfl, rfl, fun h => by cases h⟩
      · exact ⟨i + 1, by omega, ⟨by omega, fun j q' hj hq' => by
          rcases Nat.lt_succ_iff_lt_or_eq.1 hj with h | h
          · exact hok j q' h hq'
          · subst h; rw [hq] at hq'; injection hq' with hq'; rw [← hq']; exact hbq hb⟩, subA, subA⟩
    · repeat' (first | refine zac ?_ | refine zaa ?_ | ((first | refine zab ?_ | refine zaD ?_ | refine zae ?_ ); (first | change W _ _ _ _ _ | change Exists _ )) | (refine isRL ?_; first | refine uMv ?_ | refine uAs ?_ | (refine isBin ?_; first | refine uBb false ?_ ) | (refine isLd ?_; first | refine uL1 ?_ ) | (refine isCl ?_; first | refine uP ?_) | (refine isFa ?_; first | refine uP ?_) ) | refine wF fun _ => ?_ )
      exact zaw (by rfl) rfl ghasA ⟨_, rfl, rfl, fun _ => hsh fun k hk => by
        obtain ⟨j, hj⟩ := List.mem_iff_getElem?.1 hk
        exact hok j k (by have := (List.getElem?_eq_some_iff.1 hj).1; omega) hj⟩
theorem zje (e : E) : CallsN Tryz.prog 115 [.dat (encE e)] [] (BoolP (ShE e)) := by
  have hD := zkw e 51
  have hR := ziw e
  (refine zam (Ty := Ty) zag Tryz.func115 rfl rfl rfl (by rfl) fun w0 S0 hp => ?_; simp only [argsF, List.zipIdx_cons, List.zipIdx_nil, List.map_cons, List.map_nil, Nat.zero_add])
  repeat' (first | refine zac ?_ | refine zaa ?_ | ((first | refine zab ?_ | refine zaf ?_ | refine zae ?_); (first | change W _ _ _ _ _ | change EndN _ _ _ _ _ _ | change Exists _ )) | (refine isRL ?_; first | refine uNx hD (fun i _ => ?_) | refine uNx hR (fun b hbq => ?_) | refine uAs ?_ | (refine isBin ?_; first | refine uP ?_) | (refine isLd ?_; first | refine uLb ?_ ) | refine uBx ?_ ) | ((first | refine wCsD ?_ ?_ ) <;> intro hb))
  all_goals first | exact zaw (by rfl) rfl ghasA ⟨_, rfl, rfl, hbq⟩ | exact zaw (by rfl) rfl ghasA ⟨_, rfl, rfl, fun h => by cases h⟩
end Go.Proofs.YtjhkehloipmjfaaGreat
