/- label.Right, told in abstract values. -/
import Derived.Test.YtjhkehloipmjfaaGreatWS
import Derived.Test.YtjhkehloipmjfaaGreatB1
import Derived.Test.YtjhkehloipmjfaaGreatWO
set_option maxRecDepth 100000
namespace Go.Proofs.YtjhkehloipmjfaaGreat
open Go.RowKit
abbrev RW (w : World) (e : E) (cs : List Value) : Prop := RE (fun k => k < w.heap.size) w e cs
section
variable {S S' : Nat → Nat → Prop} {w w' : World}
theorem rd_v {x v : Value} (h : RD S w (.v x) v) : v = x := by cases h; rfl
theorem zkr : ∀ (e : E) (cs : List Value), RDL S w (encE e) cs → RW w e cs := E.ind fun e ih cs h => by
  rw [zbi] at h
  obtain ⟨hl, hr⟩ := h
  have g : ∀ (j : Nat) (x : Value), [D.v (.int .i64 e.kind), .v (.string e.name), .v (.int .i64 e.val.kind), .v (.int .i64 e.val.n), .v (.float .f64 e.val.f), .v (.string e.val.s), .sl (e.kids.map encE)][j]? = some (.v x) → cs[j]? = some x := by
    intro j x hj
    obtain ⟨u, hu, hru⟩ := hr j _ hj
    rw [hu, rd_v hru]
  obtain ⟨u, hu, hru⟩ := hr 6 _ rfl
  generalize hrows : e.kids.map encE = rows at hru
  cases hru with
  | sl _ A c sz vs cap lim nil row val spot mem =>
    subst hrows
    rw [List.length_map] at hu cap lim
    have hsz : ∀ i, i < e.kids.length → sz = 7 := fun i hi => by
      rw [← row i (encE e.kids[i]) (by rw [List.getElem?_map, List.getElem?_eq_getElem hi]; rfl), zax]
    refine .mk e cs A c (fun i => (List.range 7).map (vs i)) hl (g 0 _ rfl) (g 1 _ rfl) (g 2 _ rfl) (g 3 _ rfl) (g 4 _ rfl) (g 5 _ rfl) hu cap lim (fun h => by simpa using nil h) (fun i q hq => ?_) (fun a ha h0 => ?_) fun a ha i hi j u hj => ?_
    · refine ih q (List.mem_of_getElem? hq) _ ⟨by rw [zax]; simp, fun j x hx => ?_⟩
      have hj : j < 7 := by have := (List.getElem?_eq_some_iff.1 hx).1; rwa [zax] at this
      exact ⟨vs i j, by rw [List.getElem?_map, List.getElem?_range hj]; rfl, val i (encE q) (by rw [List.getElem?_map, hq]; rfl) j x hx⟩
    · have := (mem a ha 0 (by simpa using h0) 0 (by rw [hsz 0 h0]; omega)).2
      have hlt := World.block_lt_of_cell? w ⟨a.block, _, none⟩ this
      exact hlt
    · have hj7 : j < 7 := by have := (List.getElem?_eq_some_iff.1 hj).1; simpa using this
      rw [List.getElem?_map, List.getElem?_range hj7] at hj
      injection hj with hj
      have hm := (mem a ha i (by simpa using hi) j (by rw [hsz i hi]; exact hj7)).2
      have hsp := spot a ha (by simp; omega)
      obtain ⟨b, off, sp⟩ := a
      simp only at hsp hm
      subst hsp
      rw [Addr.add_lit, ← hj, ← hm, hsz i hi]
theorem zeM {P : Program} {f : FuncId} {args : List VV} {b : Bool} (he : Enters P f) (h : ∀ S w vs, ArgsR S w args vs → Calls P f vs.toArray w (RBool b w)) : CallsV P f args (.val (vB b)) :=
  ⟨he, fun S w vs ha _ => (h S w vs ha).mono fun _ _ hr => ⟨.bool b, S, hr.1, hr.2, fun _ _ hs => hs, fun _ _ hs => .inl hs, fun _ _ => .one (.v _ rfl)⟩⟩
theorem args1 {x : VV} {vs : List Value} (h : ArgsR S w [x] vs) : ∃ v, vs = [v] ∧ PV S w x v := by
  obtain ⟨hl, hr⟩ := h
  match vs, hl with
  | [v], _ => exact ⟨v, rfl, hr 0 x v rfl rfl⟩
theorem pv_v {x v : Value} (h : PV S w (.one (.d (.v x))) v) : v = x := zaJ (h (fun _ => 0) (fun _ => undef))
theorem zmj {cs : List D} {v : Value} (h : PV S w (.dat cs) v) : ∃ us : List Value, v = .agg us.toArray ∧ RDL S w cs us := by
  have := h (fun _ => 0) (fun _ => undef)
  cases this with | dat h2 => exact ⟨_, rfl, h2⟩
end
theorem zlA (e : E) : CallsV Tryz.prog 71 [.dat (encE e)] (.val (vB (labelRight e))) :=
  zeM (enters Tryz.func71 rfl rfl) fun S w vs h => by
    obtain ⟨v, rfl, h1⟩ := args1 h
    obtain ⟨us, rfl, h2⟩ := zmj h1
    exact zeQ (zkr e us h2) w (Below.refl _ _)
end Go.Proofs.YtjhkehloipmjfaaGreat
namespace Go.Proofs.YtjhkehloipmjfaaGreat
open Go.RowKit
theorem zmF (s : ByteArray) : CallsV Tryz.prog 154 [vS s] (.val (vI (opKids s))) := by
  (refine zaj (Ty := Ty) zag Tryz.func154 rfl rfl rfl fun w0 S0 => ?_; simp only [argsF, List.zipIdx_cons, List.zipIdx_nil, List.map_cons, List.map_nil, Nat.zero_add])
  cases h0 : eqL s ⟨#[61]⟩ with
  | true =>
    have g0 : (s.toList == ByteArray.toList ⟨#[61]⟩) = true := h0
    repeat (first | refine zac ?_ | refine zaa ?_ | ((first | refine zab ?_ | refine zaf ?_ | refine zae ?_); (first | change W _ _ _ _ _ | skip)) | (refine isRL ?_; first | refine uMv ?_ | refine uAs ?_ | (refine isBin ?_; first | refine uBb true ?_ ) ) | refine zad ?_ | refine wT fun _ => ?_ )
    exact zah (by rfl) (zaU (by rw [opKids, h0]; simp))
  | false =>
    have g0 : (s.toList == ByteArray.toList ⟨#[61]⟩) = false := h0
    cases h1 : eqL s ⟨#[60, 62]⟩ with
    | true =>
      have g1 : (s.toList == ByteArray.toList ⟨#[60, 62]⟩) = true := h1
      repeat (first | refine zac ?_ | refine zaa ?_ | ((first | refine zab ?_ | refine zaf ?_ | refine zae ?_); (first | change W _ _ _ _ _ | skip)) | (refine isRL ?_; first | refine uMv ?_ | refine uAs ?_ | (refine isBin ?_; first | refine uBb true ?_ | refine uBb false ?_ ) ) | refine zad ?_ | refine wT fun _ => ?_ | refine wF fun _ => ?_)
      exact zah (by rfl) (zaU (by rw [opKids, h0, h1]; simp))
    | false =>
      have g1 : (s.toList == ByteArray.toList ⟨#[60, 62]⟩) = false := h1
      cases h2 : eqL s ⟨#[60]⟩ with
      | true =>
        have g2 : (s.toList == ByteArray.toList ⟨#[60]⟩) = true := h2
        repeat (first | refine zac ?_ | refine zaa ?_ | ((first | refine zab ?_ | refine zaf ?_ | refine zae ?_); (first | change W _ _ _ _ _ | skip)) | (refine isRL ?_; first | refine uMv ?_ | refine uAs ?_ | (refine isBin ?_; first | refine uBb true ?_ | refine uBb false ?_ ) ) | refine zad ?_ | refine wT fun _ => ?_ | refine wF fun _ => ?_)
        exact zah (by rfl) (zaU (by rw [opKids, h0, h1, h2]; simp))
      | false =>
        have g2 : (s.toList == ByteArray.toList ⟨#[60]⟩) = false := h2
        cases h3 : eqL s ⟨#[60, 61]⟩ with
        | true =>
          have g3 : (s.toList == ByteArray.toList ⟨#[60, 61]⟩) = true := h3
          repeat (first | refine zac ?_ | refine zaa ?_ | ((first | refine zab ?_ | refine zaf ?_ | refine zae ?_); (first | change W _ _ _ _ _ | skip)) | (refine isRL ?_; first | refine uMv ?_ | refine uAs ?_ | (refine isBin ?_; first | refine uBb true ?_ | refine uBb false ?_ ) ) | refine zad ?_ | refine wT fun _ => ?_ | refine wF fun _ => ?_)
          exact zah (by rfl) (zaU (by rw [opKids, h0, h1, h2, h3]; simp))
        | false =>
          have g3 : (s.toList == ByteArray.toList ⟨#[60, 61]⟩) = false := h3
          cases h4 : eqL s ⟨#[62]⟩ with
          | true =>
            have g4 : (s.toList == ByteArray.toList ⟨#[62]⟩) = true := h4
            repeat (first | refine zac ?_ | refine zaa ?_ | ((first | refine zab ?_ | refine zaf ?_ | refine zae ?_); (first | change W _ _ _ _ _ | skip)) | (refine isRL ?_; first | refine uMv ?_ | refine uAs ?_ | (refine isBin ?_; first | refine uBb true ?_ | refine uBb false ?_ ) ) | refine zad ?_ | refine wT fun _ => ?_ | refine wF fun _ => ?_)
            exact zah (by rfl) (zaU (by rw [opKids, h0, h1, h2, h3, h4]; simp))
          | false =>
            have g4 : (s.toList == ByteArray.toList ⟨#[62]⟩) = false := h4
            cases h5 : eqL s ⟨#[62, 61]⟩ with
            | true =>
              have g5 : (s.toList == ByteArray.toList ⟨#[62, 61]⟩) = true := h5
              repeat (first | refine zac ?_ | refine zaa ?_ | ((first | refine zab ?_ | refine zaf ?_ | refine zae ?_); (first | change W _ _ _ _ _ | skip)) | (refine isRL ?_; first | refine uMv ?_ | refine uAs ?_ | (refine isBin ?_; first | refine uBb true ?_ | refine uBb false ?_ ) ) | refine zad ?_ | refine wT fun _ => ?_ | refine wF fun _ => ?_)
              exact zah (by rfl) (zaU (by rw [opKids, h0, h1, h2, h3, h4, h5]; simp))
            | false =>
              have g5 : (s.toList == ByteArray.toList ⟨#[62, 61]⟩) = false := h5
              cases h6 : eqL s ⟨#[97, 110, 100]⟩ with
              | true =>
                have g6 : (s.toList == ByteArray.toList ⟨#[97, 110, 100]⟩) = true := h6
                repeat (first | refine zac ?_ | refine zaa ?_ | ((first | refine zab ?_ | refine zaf ?_ | refine zae ?_); (first | change W _ _ _ _ _ | skip)) | (refine isRL ?_; first | refine uMv ?_ | refine uAs ?_ | (refine isBin ?_; first | refine uBb true ?_ | refine uBb false ?_ ) ) | refine zad ?_ | refine wT fun _ => ?_ | refine wF fun _ => ?_)
                exact zah (by rfl) (zaU (by rw [opKids, h0, h1, h2, h3, h4, h5, h6]; simp))
              | false =>
                have g6 : (s.toList == ByteArray.toList ⟨#[97, 110, 100]⟩) = false := h6
                cases h7 : eqL s ⟨#[111, 114]⟩ with
                | true =>
                  have g7 : (s.toList == ByteArray.toList ⟨#[111, 114]⟩) = true := h7
                  repeat (first | refine zac ?_ | refine zaa ?_ | ((first | refine zab ?_ | refine zaf ?_ | refine zae ?_); (first | change W _ _ _ _ _ | skip)) | (refine isRL ?_; first | refine uMv ?_ | refine uAs ?_ | (refine isBin ?_; first | refine uBb true ?_ | refine uBb false ?_ ) ) | refine zad ?_ | refine wT fun _ => ?_ | refine wF fun _ => ?_)
                  exact zah (by rfl) (zaU (by rw [opKids, h0, h1, h2, h3, h4, h5, h6, h7]; simp))
                | false =>
                  have g7 : (s.toList == ByteArray.toList ⟨#[111, 114]⟩) = false := h7
                  cases h8 : eqL s ⟨#[43]⟩ with
                  | true =>
                    have g8 : (s.toList == ByteArray.toList ⟨#[43]⟩) = true := h8
                    repeat (first | refine zac ?_ | refine zaa ?_ | ((first | refine zab ?_ | refine zaf ?_ | refine zae ?_); (first | change W _ _ _ _ _ | skip)) | (refine isRL ?_; first | refine uMv ?_ | refine uAs ?_ | (refine isBin ?_; first | refine uBb true ?_ | refine uBb false ?_ ) ) | refine zad ?_ | refine wT fun _ => ?_ | refine wF fun _ => ?_)
                    exact zah (by rfl) (zaU (by rw [opKids, h0, h1, h2, h3, h4, h5, h6, h7, h8]; simp))
                  | false =>
                    have g8 : (s.toList == ByteArray.toList ⟨#[43]⟩) = false := h8
                    cases h9 : eqL s ⟨#[45]⟩ with
                    | true =>
                      have g9 : (s.toList == ByteArray.toList ⟨#[45]⟩) = true := h9
                      repeat (first | refine zac ?_ | refine zaa ?_ | ((first | refine zab ?_ | refine zaf ?_ | refine zae ?_); (first | change W _ _ _ _ _ | skip)) | (refine isRL ?_; first | refine uMv ?_ | refine uAs ?_ | (refine isBin ?_; first | refine uBb true ?_ | refine uBb false ?_ ) ) | refine zad ?_ | refine wT fun _ => ?_ | refine wF fun _ => ?_)
                      exact zah (by rfl) (zaU (by rw [opKids, h0, h1, h2, h3, h4, h5, h6, h7, h8, h9]; simp))
                    | false =>
                      have g9 : (s.toList == ByteArray.toList ⟨#[45]⟩) = false := h9
                      cases h10 : eqL s ⟨#[42]⟩ with
                      | true =>
                        have g10 : (s.toList == ByteArray.toList ⟨#[42]⟩) = true := h10
                        repeat (first | refine zac ?_ | refine zaa ?_ | ((first | refine zab ?_ | refine zae ?_); (first | change W _ _ _ _ _ | skip)) | (refine isRL ?_; first | refine uMv ?_ | refine uAs ?_ | (refine isBin ?_; first | refine uBb true ?_ | refine uBb false ?_ ) ) | refine zad ?_ | refine wT fun _ => ?_ | refine wF fun _ => ?_)
                        exact zah (by rfl) (zaU (by rw [opKids, h0, h1, h2, h3, h4, h5, h6, h7, h8, h9, h10]; simp))
                      | false =>
                        have g10 : (s.toList == ByteArray.toList ⟨#[42]⟩) = false := h10
                        cases h11 : eqL s ⟨#[110, 111, 116]⟩ with
                        | true =>
                          have g11 : (s.toList == ByteArray.toList ⟨#[110, 111, 116]⟩) = true := h11
                          repeat (first | refine zac ?_ | refine zaa ?_ | ((first | refine zab ?_ | refine zaf ?_ | refine zae ?_); (first | change W _ _ _ _ _ | skip)) | (refine isRL ?_; first | refine uMv ?_ | refine uAs ?_ | (refine isBin ?_; first | refine uBb true ?_ | refine uBb false ?_ ) ) | refine zad ?_ | refine wT fun _ => ?_ | refine wF fun _ => ?_)
                          exact zah (by rfl) (zaU (by rw [opKids, h0, h1, h2, h3, h4, h5, h6, h7, h8, h9, h10, h11]; simp))
                        | false =>
                          have g11 : (s.toList == ByteArray.toList ⟨#[110, 111, 116]⟩) = false := h11
                          cases h12 : eqL s ⟨#[105, 115, 110, 117, 108, 108]⟩ with
                          | true =>
                            have g12 : (s.toList == ByteArray.toList ⟨#[105, 115, 110, 117, 108, 108]⟩) = true := h12
                            repeat (first | refine zac ?_ | refine zaa ?_ | ((first | refine zab ?_ | refine zae ?_); (first | change W _ _ _ _ _ | skip)) | (refine isRL ?_; first | refine uMv ?_ | refine uAs ?_ | (refine isBin ?_; first | refine uBb true ?_ | refine uBb false ?_ ) ) | refine zad ?_ | refine wT fun _ => ?_ | refine wF fun _ => ?_)
                            exact zah (by rfl) (zaU (by rw [opKids, h0, h1, h2, h3, h4, h5, h6, h7, h8, h9, h10, h11, h12]; simp))
                          | false =>
                            have g12 : (s.toList == ByteArray.toList ⟨#[105, 115, 110, 117, 108, 108]⟩) = false := h12
                            repeat (first | refine zac ?_ | refine zaa ?_ | ((first | refine zab ?_ | refine zaf ?_ | refine zae ?_); (first | change W _ _ _ _ _ | change EndQ _ _ _ _ _ _ )) | (refine isRL ?_; first | refine uMv ?_ | refine uAs ?_ | (refine isBin ?_; first | refine uBb false ?_ ) ) | refine zad ?_ | refine wF fun _ => ?_)
                            exact zah (by rfl) (zaU (by rw [opKids, h0, h1, h2, h3, h4, h5, h6, h7, h8, h9, h10, h11, h12]; rfl))
theorem zbd (b : Nat) : ExtV Tryz.prog 107 [.one (.d (.v (.float .f64 b)))] (.one (.d (.v (.int .u64 b)))) :=
  ⟨fun S w vs h => by
    obtain ⟨v, rfl, h1⟩ := args1 h
    rw [pv_v h1]
    exact ⟨_, by kernel_rfl, fun _ _ => .one (.v _ rfl)⟩⟩
theorem ziD : ExtV Tryz.prog 164 [.one (.d (.v (.int .u64 9221120237041090561)))] (.one (.d (.v (.float .f64 9221120237041090561)))) :=
  ⟨fun S w vs h => by
    obtain ⟨v, rfl, h1⟩ := args1 h
    rw [pv_v h1]
    exact ⟨_, by kernel_rfl, fun _ _ => .one (.v _ rfl)⟩⟩
theorem zm4 : CallsV Tryz.prog 130 [] (.val (.one (.d (.v (.float .f64 nanBits))))) := by
  (refine zaj (Ty := Ty) zag Tryz.func130 rfl rfl rfl fun w0 S0 => ?_; simp only [argsF, List.zipIdx_nil, List.map_nil])
  repeat (first | refine zac ?_ | refine zaa ?_ | ((first | refine zab ?_ | refine zae ?_); (first | change W _ _ _ _ _ | change EndQ _ _ _ _ _ _ )) | (refine isRL ?_; first | refine uAs ?_ | (refine isCl ?_; first | refine uE (ziD) ?_ ) ))
  exact zah (by rfl) rfl
theorem zlO (f : Nat) : CallsV Tryz.prog 106 [.one (.d (.v (.float .f64 f)))] (.val (.one (.d (.v (.float .f64 (canon f)))))) := by
  (refine zaj (Ty := Ty) zag Tryz.func106 rfl rfl rfl fun w0 S0 => ?_; simp only [argsF, List.zipIdx_cons, List.zipIdx_nil, List.map_cons, List.map_nil, Nat.zero_add])
  cases h : Op.floatEq .f64 f f with
  | true =>
    have h' : (!Op.floatEq .f64 f f) = false := by rw [h]; rfl
    repeat (first | refine zac ?_ | refine zaa ?_ | ((first | refine zab ?_ | refine zaf ?_ | refine zae ?_); (first | change W _ _ _ _ _ | change EndQ _ _ _ _ _ _ )) | (refine isRL ?_; first | refine uMv ?_ | refine uAs ?_ | (refine isBin ?_; first | refine uBb false ?_ ) ) | refine wF fun _ => ?_)
    exact zah (by rfl) (by unfold canon; rw [if_pos h]; rfl)
  | false =>
    have h' : (!Op.floatEq .f64 f f) = true := by rw [h]; rfl
    repeat (first | refine zac ?_ | refine zaa ?_ | ((first | refine zab ?_ | refine zae ?_); (first | change W _ _ _ _ _ | skip)) | (refine isRL ?_; first | refine uMv ?_ | refine uAs ?_ | (refine isBin ?_; first | refine uBb true ?_ ) | (refine isCl ?_; first | refine uC (zm4) ?_ ) ) | refine wT fun _ => ?_ )
    exact zah (by rfl) (by unfold canon; rw [if_neg (by rw [h]; decide)]; rfl)
theorem zhR (b : Bool) : CallsV Tryz.prog 105 [vB b] (.val (.dat (encV ⟨1, if b = true then 1 else 0, 0, ⟨#[]⟩⟩))) := by
  (refine zaj (Ty := Ty) zag Tryz.func105 rfl rfl rfl fun w0 S0 => ?_; simp only [argsF, List.zipIdx_cons, List.zipIdx_nil, List.map_cons, List.map_nil, Nat.zero_add])
  cases b
  · repeat (first | refine zac ?_ | refine zaa ?_ | ((first | refine zab ?_ | refine zaf ?_ | refine zae ?_); (first | change W _ _ _ _ _ | change EndQ _ _ _ _ _ _ )) | (refine isRL ?_; first | refine uMv ?_ | (refine isBd ?_; first | refine uBd ?_ ) | (refine isSt ?_; first | refine uSw ?_ ) | refine uN ?_) | refine wF fun _ => ?_)
    exact zah (by rfl) rfl
  · repeat (first | refine zac ?_ | refine zaa ?_ | ((first | refine zab ?_ | refine zae ?_); (first | change W _ _ _ _ _ | skip)) | (refine isRL ?_; first | refine uMv ?_ | (refine isBd ?_; first | refine uBd ?_ ) | (refine isSt ?_; first | refine uSw ?_ ) | refine uN ?_) | refine wT fun _ => ?_ )
    exact zah (by rfl) rfl
end Go.Proofs.YtjhkehloipmjfaaGreat
