/- Floats and words, as values. -/
import Derived.Test.YtjhkehloipmjfaaGreatWE
import Derived.Test.YtjhkehloipmjfaaGreatVD
import Derived.Test.YtjhkehloipmjfaaGreatMB
import Derived.Test.YtjhkehloipmjfaaGreatMA
namespace Go.Proofs.YtjhkehloipmjfaaGreat
abbrev vF (f : Nat) : VV := .one (.d (.v (.float .f64 f)))
abbrev vUE (n : Int) : VV := .one (.d (.v (.int .u64 n)))
end Go.Proofs.YtjhkehloipmjfaaGreat
/- Walks: the reference's floats and values: what they are. -/
namespace Go.Proofs.YtjhkehloipmjfaaGreat
open Go.RowKit
/-! ### floats as words -/
theorem and_u (x : Int) (c : Nat) (hc : c < 9223372036854775808) : 0 ≤ IntKind.i64.wrap (IntKind.u64.wrap ((BitVec.ofInt IntKind.u64.bits x &&& BitVec.ofInt IntKind.u64.bits (c : Int)).toNat : Nat)) ∧ IntKind.i64.wrap (IntKind.u64.wrap ((BitVec.ofInt IntKind.u64.bits x &&& BitVec.ofInt IntKind.u64.bits (c : Int)).toNat : Nat)) ≤ c := by
  have hb : (BitVec.ofInt IntKind.u64.bits x &&& BitVec.ofInt IntKind.u64.bits (c : Int)).toNat ≤ c := by
    rw [BitVec.toNat_and]
    have : (BitVec.ofInt IntKind.u64.bits (c : Int)).toNat = c := by
      rw [BitVec.ofInt_natCast, BitVec.toNat_ofNat]
      exact Nat.mod_eq_of_lt (Nat.lt_of_lt_of_le hc (by decide))
    rw [this]
    exact Nat.and_le_right
  generalize (BitVec.ofInt IntKind.u64.bits x &&& BitVec.ofInt IntKind.u64.bits (c : Int)).toNat = z at hb
  rw [IntKind.wrap_u64, IntWalk.i64_in _ (by omega)]
  omega
set_option maxRecDepth 100000 in
theorem parts_x (f : Nat) : ∃ (a : Bool) (b c : Int), CallsV Tryz.prog 202 [vF f] (.val (.tup [vB a, vI b, vI c])) ∧ (0 ≤ b ∧ b ≤ 2047) ∧ (0 ≤ c ∧ c ≤ 4503599627370495) := by
  refine ⟨?a, ?b, ?c, ?g, ?h1, ?h2⟩
  case g =>
    have hB := fbits_v f
    (refine callsV_of_W (Ty := Ty) ty_ok Tryz.func202 rfl rfl rfl fun w0 S0 => ?_; simp only [argsF, List.zipIdx_cons, List.zipIdx_nil, List.map_cons, List.map_nil, Nat.zero_add])
    repeat (first | refine W_seq ?_ | refine W_region ?_ | ((first | refine RL_nil ?_ | refine W_ret ?_); (first | change W _ _ _ _ _ | change EndQ _ _ _ _ _ _ )) | (refine isRL ?_; first | refine uMv ?_ | refine uAs ?_ | (refine isBin ?_; first | refine uP ?_) | (refine isCl ?_; first | refine uE (hB) ?_ ) | refine uP ?_))
    exact end_r (by rfl) rfl
  case h1 => exact and_u _ 2047 (by decide)
  case h2 => exact and_u _ 4503599627370495 (by decide)
noncomputable def pA (f : Nat) : Bool := Classical.choose (parts_x f)
noncomputable def pB (f : Nat) : Int := Classical.choose (Classical.choose_spec (parts_x f))
noncomputable def pC (f : Nat) : Int := Classical.choose (Classical.choose_spec (Classical.choose_spec (parts_x f)))
theorem parts_a (f : Nat) : CallsV Tryz.prog 202 [vF f] (.val (.tup [vB (pA f), vI (pB f), vI (pC f)])) ∧ (0 ≤ pB f ∧ pB f ≤ 2047) ∧ (0 ≤ pC f ∧ pC f ≤ 4503599627370495) := Classical.choose_spec (Classical.choose_spec (Classical.choose_spec (parts_x f)))
theorem parts_v (f : Nat) : CallsV Tryz.prog 202 [vF f] (.val (.tup [vB (pA f), vI (pB f), vI (pC f)])) := (parts_a f).1
noncomputable def nanB (f : Nat) : Bool := pB f == 2047 && pC f != 0
noncomputable def bitsF (f : Nat) : Int := if nanB f = true then 9221120237041090561 else (f : Int)
set_option maxRecDepth 100000 in
theorem nanB_v (f : Nat) : CallsV Tryz.prog 189 [vF f] (.val (vB (nanB f))) := by
  have h1 := parts_v f
  have hd : nanB f = (pB f == 2047 && pC f != 0) := rfl
  rw [hd]
  generalize pA f = a at h1
  generalize pB f = b at *
  generalize pC f = c at *
  (refine callsV_of_W (Ty := Ty) ty_ok Tryz.func189 rfl rfl rfl fun w0 S0 => ?_; simp only [argsF, List.zipIdx_cons, List.zipIdx_nil, List.map_cons, List.map_nil, Nat.zero_add])
  repeat' (first | refine W_seq ?_ | refine W_region ?_ | ((first | refine RL_nil ?_ | refine W_ret ?_); (first | change W _ _ _ _ _ | change EndQ _ _ _ _ _ _ )) | (refine isRL ?_; first | refine uMv ?_ | refine uAs ?_ | refine uO ?_ | (refine isBin ?_; first | refine uP ?_) | (refine isCl ?_; first | refine uC (h1) ?_ ) | refine uP ?_ | ((first | refine uGsD ?_ ?_ ) <;> intro hb)))
  all_goals exact end_r (by rfl) (vB_eq (by simp [*]))
set_option maxRecDepth 100000 in
theorem bitsF_v (f : Nat) : CallsV Tryz.prog 178 [vF f] (.val (vUE (bitsF f))) := by
  have h1 := nanB_v f
  have hB := fbits_v f
  have hd : bitsF f = if nanB f = true then 9221120237041090561 else (f : Int) := rfl
  rw [hd]
  generalize nanB f = b at *
  cases b
  all_goals
    (refine callsV_of_W (Ty := Ty) ty_ok Tryz.func178 rfl rfl rfl fun w0 S0 => ?_; simp only [argsF, List.zipIdx_cons, List.zipIdx_nil, List.map_cons, List.map_nil, Nat.zero_add])
    repeat' (first | refine W_seq ?_ | refine W_region ?_ | ((first | refine RL_nil ?_ | refine W_skip ?_ | refine W_ret ?_); (first | change W _ _ _ _ _ | change EndQ _ _ _ _ _ _ | skip)) | (refine isRL ?_; first | refine uMv ?_ | refine uAs ?_ | (refine isCl ?_; first | refine uC (h1) ?_ | refine uE (hB) ?_ ) ) | refine wT fun _ => ?_ | refine wF fun _ => ?_ )
    all_goals exact end_r (by rfl) rfl
noncomputable def right02 (v : Val) : Bool :=
  if v.kind = 0 then v.n == 0 && ((v.f : Int) == 0 && (v.s.toList == ByteArray.toList ⟨#[]⟩))
  else if v.kind = 1 then (v.n == 0 || v.n == 1) && ((v.f : Int) == 0 && (v.s.toList == ByteArray.toList ⟨#[]⟩))
  else if v.kind = 2 then (v.f : Int) == 0 && (v.s.toList == ByteArray.toList ⟨#[]⟩)
  else if v.kind = 3 then v.n == 0 && ((v.s.toList == ByteArray.toList ⟨#[]⟩) && bitsF v.f == (v.f : Int))
  else if v.kind = 4 then v.n == 0 && (v.f : Int) == 0
  else false
set_option maxRecDepth 100000 in
theorem right02_v (v : Val) : CallsV Tryz.prog 171 [.dat (encV v)] (.val (vB (right02 v))) := by
  have h1 := bitsF_v v.f
  have hB := fbits_v v.f
  unfold right02
  generalize bitsF v.f = x at *
  obtain ⟨z, hz⟩ : ∃ z : Int, (v.f : Int) = z := ⟨_, rfl⟩
  rw [hz] at hB ⊢
  clear hz
  by_cases k0 : v.kind = 0
  · rw [if_pos k0]
    (refine callsV_of_W (Ty := Ty) ty_ok Tryz.func171 rfl rfl rfl fun w0 S0 => ?_; simp only [argsF, List.zipIdx_cons, List.zipIdx_nil, List.map_cons, List.map_nil, Nat.zero_add])
    repeat' (first | refine W_seq ?_ | refine W_region ?_ | ((first | refine RL_nil ?_ | refine W_ret ?_ ); (first | change W _ _ _ _ _ | skip)) | (refine isRL ?_; first | refine uMv ?_ | refine uAs ?_ | refine uO ?_ | (refine isBin ?_; first | refine uBb true ?_ | refine uP ?_) | (refine isLd ?_; first | refine uL1 ?_ ) | (refine isCl ?_; first | refine uE (hB) ?_ ) | (refine isFa ?_; first | refine uP ?_) | refine uP ?_ | refine uBx ?_ | ((first | refine uGsD ?_ ?_ ) <;> intro hb)) | refine W_block ?_ | refine wT fun _ => ?_ )
    all_goals exact end_r (by rfl) (vB_eq (by simp [*]))
  rw [if_neg k0]
  by_cases k1 : v.kind = 1
  · rw [if_pos k1]
    (refine callsV_of_W (Ty := Ty) ty_ok Tryz.func171 rfl rfl rfl fun w0 S0 => ?_; simp only [argsF, List.zipIdx_cons, List.zipIdx_nil, List.map_cons, List.map_nil, Nat.zero_add])
    repeat' (first | refine W_seq ?_ | refine W_region ?_ | ((first | refine RL_nil ?_ | refine W_ret ?_ ); (first | change W _ _ _ _ _ | skip)) | (refine isRL ?_; first | refine uMv ?_ | refine uAs ?_ | refine uO ?_ | (refine isBin ?_; first | refine uBb true ?_ | refine uBb false ?_ | refine uP ?_) | (refine isLd ?_; first | refine uL1 ?_ ) | (refine isCl ?_; first | refine uE (hB) ?_ ) | (refine isFa ?_; first | refine uP ?_) | refine uP ?_ | refine uBx ?_ | ((first | refine uGsD ?_ ?_ ) <;> intro hb)) | refine W_block ?_ | refine wT fun _ => ?_ | refine wF fun _ => ?_ )
    all_goals exact end_r (by rfl) (vB_eq (by simp [*]))
  rw [if_neg k1]
  by_cases k2 : v.kind = 2
  · rw [if_pos k2]
    (refine callsV_of_W (Ty := Ty) ty_ok Tryz.func171 rfl rfl rfl fun w0 S0 => ?_; simp only [argsF, List.zipIdx_cons, List.zipIdx_nil, List.map_cons, List.map_nil, Nat.zero_add])
    repeat' (first | refine W_seq ?_ | refine W_region ?_ | ((first | refine RL_nil ?_ | refine W_ret ?_ ); (first | change W _ _ _ _ _ | skip)) | (refine isRL ?_; first | refine uMv ?_ | refine uAs ?_ | refine uO ?_ | (refine isBin ?_; first | refine uBb true ?_ | refine uBb false ?_ | refine uP ?_) | (refine isLd ?_; first | refine uL1 ?_ ) | (refine isCl ?_; first | refine uE (hB) ?_ ) | (refine isFa ?_; first | refine uP ?_) | refine uP ?_ | refine uBx ?_ | ((first | refine uGsD ?_ ?_ ) <;> intro hb)) | refine W_block ?_ | refine wT fun _ => ?_ | refine wF fun _ => ?_ )
    all_goals exact end_r (by rfl) (vB_eq (by simp [*]))
  rw [if_neg k2]
  by_cases k3 : v.kind = 3
  · rw [if_pos k3]
    cases c1 : v.n == 0 <;> cases c2 : (v.s.toList == ByteArray.toList ⟨#[]⟩)
    all_goals
      (refine callsV_of_W (Ty := Ty) ty_ok Tryz.func171 rfl rfl rfl fun w0 S0 => ?_; simp only [argsF, List.zipIdx_cons, List.zipIdx_nil, List.map_cons, List.map_nil, Nat.zero_add])
      repeat' (first | refine W_seq ?_ | refine W_region ?_ | ((first | refine RL_nil ?_ | refine W_ret ?_ ); (first | change W _ _ _ _ _ | skip)) | (refine isRL ?_; first | refine uAs ?_ | (refine isBin ?_; first | refine uBb true ?_ | refine uBb false ?_ | refine uP ?_) | (refine isLd ?_; first | refine uL1 ?_ ) | (refine isCl ?_; first | refine uE (hB) ?_ ) | (refine isFa ?_; first | refine uP ?_) | refine uBx ?_ ) | refine W_block ?_ | refine wT fun _ => ?_ | refine wF fun _ => ?_ | refine uAny ?_ | (refine isD ?_; first | refine mMv ?_ | refine mAs ?_ | refine mO ?_ | (refine imBin ?_; first | refine mBb true ?_ | refine mBb false ?_ | refine mP ?_) | (refine imLd ?_; first | refine mL1 ?_ ) | (refine imCl ?_; first | refine mC (h1) ?_ | refine mE (hB) ?_ ) | (refine imFa ?_; first | refine mP ?_) | refine mP ?_ ) )
      all_goals exact end_r (by rfl) (vB_eq (by simp [*]))
  rw [if_neg k3]
  by_cases k4 : v.kind = 4
  · rw [if_pos k4]
    (refine callsV_of_W (Ty := Ty) ty_ok Tryz.func171 rfl rfl rfl fun w0 S0 => ?_; simp only [argsF, List.zipIdx_cons, List.zipIdx_nil, List.map_cons, List.map_nil, Nat.zero_add])
    repeat' (first | refine W_seq ?_ | refine W_region ?_ | ((first | refine RL_nil ?_ | refine W_ret ?_ ); (first | change W _ _ _ _ _ | skip)) | (refine isRL ?_; first | refine uMv ?_ | refine uAs ?_ | refine uO ?_ | (refine isBin ?_; first | refine uBb true ?_ | refine uBb false ?_ | refine uP ?_) | (refine isLd ?_; first | refine uL1 ?_ ) | (refine isCl ?_; first | refine uE (hB) ?_ ) | (refine isFa ?_; first | refine uP ?_) | refine uP ?_ | refine uBx ?_ | ((first | refine uGsD ?_ ?_ ) <;> intro hb)) | refine W_block ?_ | refine wT fun _ => ?_ | refine wF fun _ => ?_ )
    all_goals exact end_r (by rfl) (vB_eq (by simp [*]))
  rw [if_neg k4]
  (refine callsV_of_W (Ty := Ty) ty_ok Tryz.func171 rfl rfl rfl fun w0 S0 => ?_; simp only [argsF, List.zipIdx_cons, List.zipIdx_nil, List.map_cons, List.map_nil, Nat.zero_add])
  repeat' (first | refine W_seq ?_ | refine W_region ?_ | ((first | refine RL_nil ?_ | refine W_skip ?_ | refine W_ret ?_ ); (first | change W _ _ _ _ _ | change EndQ _ _ _ _ _ _ )) | (refine isRL ?_; first | refine uAs ?_ | (refine isBin ?_; first | refine uBb false ?_ | refine uP ?_) | (refine isLd ?_; first | refine uL1 ?_ ) | (refine isCl ?_; first | refine uE (hB) ?_ ) | (refine isFa ?_; first | refine uP ?_) | refine uBx ?_ ) | refine W_block ?_ | refine wF fun _ => ?_ )
  all_goals exact end_r (by rfl) rfl
end Go.Proofs.YtjhkehloipmjfaaGreat
/- A contract that writes nothing of its caller's is a plain one. -/
namespace Go.Proofs.YtjhkehloipmjfaaGreat
open Go.RowKit
theorem CallsM.toV {P : Program} {f : FuncId} {args : List VV} {cs : List D} (h : CallsM P f args [] (.dat cs) []) : CallsV P f args (.val (.dat cs)) :=
  ⟨h.ent, fun S w vs ha hlt => by
    have hst : St (ictx P w (fun b => b < w.heap.size) S (pinM [] (fun _ => 0))) (fun _ => 0) (fun _ => undef) S w [] :=
      ⟨.refl _ _, hlt, fun _ hb => hb, fun _ _ hs => .inl hs, ⟨fun _ _ hs => hs, .refl⟩, fun k o hk => (by cases hk), fun k k' o o' hk => (by cases hk)⟩
    refine (h.out _ _ _ S w vs hst ⟨ha.1, fun j y v hy hv => ha.2 j y v hy hv _ _⟩).mono fun ex w' he => ?_
    obtain ⟨v, γ', T', S', rfl, hs', hv⟩ := he
    refine ⟨v, S', rfl, ⟨hs'.keep.os, hs'.keep.tape, hs'.keep.output, hs'.keep.size, fun k hk => hs'.keep.block k hk hk⟩, hs'.mon.1, fun b o hb => ?_, fun γ T => ?_⟩
    · rcases hs'.set b o hb with h1 | h1
      · exact .inl h1
      · have h1 : ¬ b < w.heap.size := h1
        exact .inr ⟨by omega, hs'.lt b o hb⟩
    · cases hv with | dat hv => exact .dat hv⟩
end Go.Proofs.YtjhkehloipmjfaaGreat
/- Contracts that say of the result but that something holds of it (and leave one's objects in one of several states). -/
namespace Go.Proofs.YtjhkehloipmjfaaGreat
open Go.RowKit
section
variable {X : Ctx} {γ γ' γ2 : Nat → Nat} {T T' T2 : Nat → Value} {S S' : Nat → Nat → Prop} {w w' : World} {fr : Fr} {σ σ0 σ1 : Obs} {a : Act} {o : Oper}
structure CallsN (P : Program) (f : FuncId) (args : List VV) (σ0 : Obs) (R : VV → Obs → Prop) : Prop where
  ent : Enters P f
  out : ∀ (N : Nat → Prop) (γ : Nat → Nat) (T : Nat → Value) (S : Nat → Nat → Prop) (w : World) (vs : List Value), St (ictx P w N S (pinM σ0 γ)) γ T S w σ0 → ArgsGR γ T S w args vs →
    Calls P f vs.toArray w (fun ex w' => ∃ x σ1, R x σ1 ∧ ∃ v γ' T' S', ex = .returned v ∧ St (ictx P w N S (pinM σ0 γ)) γ' T' S' w' σ1 ∧ RV γ' T' S' w' x v)
def EndN (X : Ctx) (rs : List ResultVar) (R : VV → Obs → Prop) : Exit → Fr → Obs → Prop
  | .normal, fr, σ | .ret, fr, σ => ∃ x σ1, R x σ1 ∧ (∃ y, retVM X fr σ rs = some y ∧ (y = x ∨ outG y = x)) ∧ ∀ p ∈ σ1, look σ p.1 = some p.2
  | _, _, _ => False
theorem callsN_of_W {P : Program} {Ty : TypeId → Option TyI} {f : FuncId} {fn : Func} {c : Code} {args : List VV} {R : VV → Obs → Prop} (hT : ∀ t i, Ty t = some i → TyOK P t i)
    (hf : P.funcs[f]? = some fn) (hname : (fn.name == "runtime.NumGoroutine") = false) (hb : fn.body = some c) (hn : Nat.ble args.length fn.ntmps = true) (hk0 : (σ0.all fun p => Nat.ble fn.ntmps p.1) = true)
    (h : ∀ (w0 : W0) (S0 : Nat → Nat → Prop), (∀ k, pinKey σ0 k = false → w0.pin k = none) → W (ctx P Ty fn.ntmps w0 S0) c (argsF args) σ0 (EndN (ctx P Ty fn.ntmps w0 S0) fn.results.toList R)) : CallsN P f args σ0 R := by
  have hent : Enters P f := fun xs w => by
    have h1 : fn.name ≠ "runtime.NumGoroutine" := by simpa using hname
    simp [callFunc, hf, h1, hb]
  refine ⟨hent, fun N γ T S w vs hst ha => calls_of_wp hf hb ?_⟩
  have hle : vs.length ≤ fn.ntmps := by rw [ha.1]; exact Nat.le_of_ble_eq_true hn
  have hr : Rel (ctx P Ty fn.ntmps ⟨w, N, pinM σ0 γ, []⟩ S) γ T S w (argsF args) σ0 { tmps := vs.toArray ++ Array.replicate (fn.ntmps - vs.toArray.size) undef, defers := [] } := by
    refine ⟨⟨hst.keep, hst.lt, hst.nlt, hst.set, hst.mon, fun k o ho => (hst.obj k o ho).cx (fun b hb => (hst.obj k o ho).free hb) (fun b hb => ?_), hst.dis⟩, fun t y hy => ?_, by simp [ctx]; omega, rfl⟩
    · have hb : (if k < fn.ntmps then none else pinM σ0 γ k) = some b := hb
      split at hb
      · cases hb
      · exact (pinM_some hb).1.symm
    · obtain ⟨_, h2⟩ := look_args args 0 t y hy
      rw [Nat.sub_zero] at h2
      have hlt : t < vs.length := by rw [ha.1]; exact (List.getElem?_eq_some_iff.1 h2).1
      have hv : vs[t]? = some vs[t] := List.getElem?_eq_getElem hlt
      have e : (vs.toArray ++ Array.replicate (fn.ntmps - vs.toArray.size) undef).getD t undef = vs[t] := by
        rw [Array.getD_eq_getD_getElem?, Array.getElem?_append_left (by simpa using hlt)]
        simp [hv]
      rw [e]
      exact ha.2 t y _ h2 hv
  refine Code.wp_mono (fun ex a' w' hq => ?_) ((h ⟨w, N, pinM σ0 γ, []⟩ S (fun k hk => by
    show pinM σ0 γ k = none
    unfold pinKey at hk; unfold pinM
    cases hl : look σ0 k with
    | none => rfl
    | some ob =>
      rw [hl] at hk
      dsimp only at hk ⊢
      rw [if_neg (by rw [hk]; exact Bool.false_ne_true)])).out _ _ _ _ _ hr)
  obtain ⟨γ', T', S', fr, σ, hr', hq⟩ := hq
  have hfin : (∃ x σ1, R x σ1 ∧ (∃ y, retVM (ctx P Ty fn.ntmps ⟨w, N, pinM σ0 γ, []⟩ S) fr σ fn.results.toList = some y ∧ (y = x ∨ outG y = x)) ∧ (∀ p ∈ σ1, look σ p.1 = some p.2)) → ∃ v, (results fn a'.tmps).run P w' = .ok v w' ∧
      ∃ x σ1, R x σ1 ∧ ∃ v' γ' T' S', Ending.returned v = .returned v' ∧ St (ictx P w N S (pinM σ0 γ)) γ' T' S' w' σ1 ∧ RV γ' T' S' w' x v' := by
    intro ⟨x, σ1, hR, ⟨y, hx1, hx2⟩, hσ⟩
    obtain ⟨v, g1, g2⟩ := retVM_sound (X := ctx P Ty fn.ntmps ⟨w, N, pinM σ0 γ, []⟩ S) hT hr' hx1
    have hlk : ∀ k ob, look σ1 k = some ob → look σ k = some ob := fun k ob hk => hσ (k, ob) (look_mem hk)
    refine ⟨v, g1, x, σ1, hR, v, γ', T', S', rfl, ⟨hr'.st.keep, hr'.st.lt, hr'.st.nlt, hr'.st.set, hr'.st.mon, fun k ob hk => ?_, fun k k' o o' hk hk' => hr'.st.dis k k' o o' (hlk k o hk) (hlk k' o' hk')⟩, ?_⟩
    · have h1 := hr'.st.obj k ob (hlk k ob hk)
      refine h1.cx2 (fun b hb => h1.free hb) fun hpy b hb => ?_
      have hb' : pinM σ0 γ k = some b := hb
      obtain ⟨_, ob0, hl0, hp0⟩ := pinM_some hb'
      have hkey : fn.ntmps ≤ k := Nat.le_of_ble_eq_true (List.all_eq_true.1 hk0 _ (look_mem hl0))
      have hpin : (ctx P Ty fn.ntmps ⟨w, N, pinM σ0 γ, []⟩ S).pin k = some b := by
        show (if k < fn.ntmps then none else pinM σ0 γ k) = some b
        rw [if_neg (by omega)]; exact hb'
      exact pinny_pin hpy h1 b hpin
    · rcases hx2 with rfl | rfl
      · exact g2
      · exact outG_sound g2
  cases ex with
  | normal => obtain ⟨v, g1, g2⟩ := hfin hq; exact ⟨hr'.df, v, g1, g2⟩
  | ret => obtain ⟨v, g1, g2⟩ := hfin hq; exact ⟨hr'.df, v, g1, g2⟩
  | exit id => exact hq.elim
  | goto l => exact hq.elim
  | panic ch => exact hq.elim
  | outgrown => exact hq.elim
end
section
variable {X : Ctx} {fr : Fr} {σ σ0 : Obs} {o : Oper} {ops : Array Oper} {rest : List Oper} {Q : Fr → Obs → Prop}
theorem RL_ncall (L : List Nat) {α : Type} {g : α → VV} {τ : α → Obs} {p : α → Prop} {f : FuncId} {x : Operand} {xs : Array Operand} {ats : Array TypeId} {args cs : List VV} (hw : wantA ops o fr = some true) (hd : inF X.nt o.dst = true) (ho : o.op = .call { callee := .value x, args := xs, argTypes := ats }) (hx : calleeG fr x = some (f, cs))
    (ha : argsG fr xs.toList = some args) (hc : CallsN X.P f (args ++ cs) σ0 (fun y σ1 => ∃ i, y = g i ∧ σ1 = τ i ∧ p i)) (hσ : ∀ p ∈ σ0, look σ p.1 = some p.2) (hok : ∀ i, okM σ0 (τ i) L = true) (hy : ∀ i, refsV (keyIn (τ i)) L.contains (g i) = true) (hfr : ∀ i, ∀ k ∈ freshM (τ i) L, X.pin k = none)
    (h : ∀ i, p i → RL X ops rest (putF (stripsF L fr) o.dst (g i)) (τ i ++ stripsS L σ) Q) : RL X ops (o :: rest) fr σ Q :=
  ⟨fun γ T S w a K hr hk => wpList_step fun K' hK => by
    obtain ⟨us, hu1, hu2⟩ := calleeG_sound hr hx
    rw [if_pos (wantA_sound hr hw)]
    unfold Oper.wp
    rw [exec_dcall ho hu1, hc.ent]
    refine (hc.out _ γ T S w _ (hr.toM hσ) ((argsG_sound hr ha).app hu2)).mono fun ex w' he => ?_
    obtain ⟨_, _, ⟨i, rfl, rfl, hp⟩, v, γ', T', S', rfl, hst, hv⟩ := he
    obtain ⟨γ2, T2, hr2, hG, hT⟩ := hr.backM L hσ hst (hok i) (hfr i)
    exact hK _ _ ((h i hp).out γ2 T2 S' w' _ K (hr2.put hd (hv.refs hG hT (hy i))) hk)⟩
end
section
variable {w0 : W0} {S0 : Nat → Nat → Prop} {nt : Nat} {fr : Fr} {σ σ1 τ0 : Obs} {o : Oper} {ops : Array Oper} {rest : List Oper} {Q : Fr → Obs → Prop} {xx : Operand}
/-- a call of which but something is known -/
theorem uNx {α : Type} {g : α → VV} {τ : α → Obs} {p : α → Prop} {f : FuncId} {xs : Array Operand} {ats : Array TypeId} {args cs all : List VV} {L : List Nat} {fr2 : α → Fr} {σ2 : α → Obs} (hc : CallsN Tryz.prog f all τ0 (fun y σ1 => ∃ i, y = g i ∧ σ1 = τ i ∧ p i)) (h : ∀ i, p i → RL (cx nt w0 S0) ops rest (fr2 i) (σ2 i) Q) (ho : o.op = .call { callee := .value xx, args := xs, argTypes := ats } := by rfl) (hx : calleeG fr xx = some (f, cs) := by rfl) (hw : wantA ops o fr = some true := by rfl) (hd : inF nt o.dst = true := by rfl)
    (ha : argsG fr xs.toList = some args := by rfl) (hall : args ++ cs = all := by rfl) (hσ : gHas σ τ0 := by (repeat (first | exact gHas_nil _ | refine gHas_cons (by rfl) ?_))) (_hL : ∀ i, autoL τ0 (τ i) = L := by intro i; first | ((try simp only [autoL, keyIn, pinny, look_cons, look_nil, List.filter_cons, List.filter_nil, Nat.reduceEqDiff, if_true, if_false, reduceIte, Bool.not_true, Bool.not_false, Bool.and_true, Bool.true_and, Bool.and_self, Bool.and_false, Bool.false_and, Option.isSome_some, Option.isSome_none, List.map_cons, List.map_nil, List.nil_append, List.cons_append, List.append_nil, Bool.false_eq_true]) <;> rfl) | rfl) (hok : ∀ i, okM τ0 (τ i) L = true := by intro i; rfl) (hy : ∀ i, refsV (keyIn (τ i)) L.contains (g i) = true := by intro i; rfl) (hfr : ∀ i, ∀ k ∈ freshM (τ i) L, (cx nt w0 S0).pin k = none := by intro i; exact pins_nil rfl) (hf : ∀ i, putF (stripsF L fr) o.dst (g i) = fr2 i := by intro i; first | ((try simp only [stripsF_cons, stripsF_nil, stripsS_cons, stripsS_nil, putF_some, putF_none, stripF_cons, stripF_nil, stripS_cons, stripS_nil, stripV, plainV, List.all_cons, List.all_nil, Bool.and_self, stripC, stripO, stripA, stripL_nil, stripL_cons, stripL_d, stripL_app, Nat.reduceEqDiff, if_false, if_true, reduceIte, List.contains_nil, List.contains_cons, Nat.reduceBEq, Bool.or_false, Bool.false_eq_true, Bool.or_true]) <;> rfl) | rfl) (hs : stripsS L σ = σ1 := by first | ((try simp only [stripsF_cons, stripsF_nil, stripsS_cons, stripsS_nil, putF_some, putF_none, stripF_cons, stripF_nil, stripS_cons, stripS_nil, stripV, plainV, List.all_cons, List.all_nil, Bool.and_self, stripC, stripO, stripA, stripL_nil, stripL_cons, stripL_d, stripL_app, Nat.reduceEqDiff, if_false, if_true, reduceIte, List.contains_nil, List.contains_cons, Nat.reduceBEq, Bool.or_false, Bool.false_eq_true, Bool.or_true]) <;> rfl) | rfl) (hg : ∀ i, τ i ++ σ1 = σ2 i := by intro i; first | ((try simp only [List.cons_append, List.nil_append]) <;> rfl) | rfl) : RL (cx nt w0 S0) ops (o :: rest) fr σ Q :=
  RL_ncall (X := cx nt w0 S0) L hw hd ho hx ha (by rw [hall]; exact hc) hσ.all hok hy hfr fun i hp => by rw [hf, hs, hg]; exact h i hp
theorem end_x {X : Ctx} {fr : Fr} {σ σ1 : Obs} {rs : List ResultVar} {x y : VV} {R : VV → Obs → Prop} (h1 : retVM X fr σ rs = some y) (h2 : y = x) (h3 : gHas σ σ1) (hR : R x σ1) : EndN X rs R .ret fr σ := ⟨x, σ1, hR, ⟨y, h1, .inl h2⟩, h3.all⟩
theorem end_xg {X : Ctx} {fr : Fr} {σ σ1 : Obs} {rs : List ResultVar} {x y : VV} {R : VV → Obs → Prop} (h1 : retVM X fr σ rs = some y) (h2 : outG y = x) (h3 : gHas σ σ1) (hR : R x σ1) : EndN X rs R .ret fr σ := ⟨x, σ1, hR, ⟨y, h1, .inr h2⟩, h3.all⟩
end
section
variable {X : Ctx} {fr : Fr} {σ : Obs} {Q : Exit → Fr → Obs → Prop}
def MidQ {α : Type} (F : α → Fr) (G : α → Obs) : Exit → Fr → Obs → Prop
  | .normal, fr, σ => ∃ a, Sub (F a) fr ∧ Sub (G a) σ
  | _, _, _ => False
/-- behind region n only so much is known -/
theorem W_mid {α : Type} (n : Nat) (F : α → Fr) (G : α → Obs) {ops : Array Oper} {dr : Bool} {c : Code} (h1 : W X (.region n ops dr) fr σ (MidQ F G)) (h2 : ∀ a, W X c (F a) (G a) Q) : W X (.seq (.region n ops dr) c) fr σ Q :=
  W_seq (h1.conseq fun e fr' σ' hq => by
    cases e with
    | normal =>
      obtain ⟨a, hf, hg⟩ := hq
      exact (h2 a).weak hf hg
    | _ => exact hq.elim)
end
end Go.Proofs.YtjhkehloipmjfaaGreat
