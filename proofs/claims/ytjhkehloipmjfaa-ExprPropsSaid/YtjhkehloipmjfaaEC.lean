/- Walks: tests of two values; a map of functions. -/
import Derived.Test.YtjhkehloipmjfaaEB
import Derived.Test.YtjhkehloipmjfaaWN
import Derived.MapKept
import Derived.WalkKit
namespace Go.Proofs.Ytjhkehloipmjfaa
open Go.RowKit
theorem run_ins {P : Program} {w : World} {es : Array MapEntry} {clock : Nat} (mty kt et : TypeId) (s : ByteArray) (val : Value) (hm : P.underlying mty = some (.map kt et)) (hk : P.underlying kt = some .string) (hf : Instr.findNow .string (.string s) es.toList 0 = some none) :
    (Instr.mapUpdate mty (.map (some w.heap.size)) (.string s) val).run P (w.alloc (.map es clock)) = .ok () (w.alloc (.map (es.push { key := .string s, val := val, born := clock }) (clock + 1))) := by
  have hb : (w.alloc (.map es clock)).heap[w.heap.size]? = some (.map es clock) := (MapKept.heap_alloc w _).1
  have hc : (Instr.checkKey false 10000 kt (.string s)).run P (w.alloc (.map es clock)) = .ok () (w.alloc (.map es clock)) := MapKept.run_checkKey (k := .string s) hk (by simp [MapKept.IsKey]) false 9999
  have ha : ∀ o, ({ w.alloc (.map es clock) with heap := (w.alloc (.map es clock)).heap.setIfInBounds w.heap.size o } : World) = w.alloc o := fun o => by
    have e : ∀ o', (w.alloc o').heap = w.heap.push o' := fun _ => rfl
    rw [e]
    have e2 : (w.heap.push (.map es clock)).setIfInBounds w.heap.size o = w.heap.push o := by
      apply Array.ext
      · simp
      · intro i h1 h2
        simp only [Array.size_push] at h2
        rw [Array.getElem_setIfInBounds, Array.getElem_push, Array.getElem_push]
        all_goals first | (split <;> split <;> first | rfl | omega) | (simp only [Array.size_push]; omega)
    rw [e2]
    rfl
  simp [Instr.mapUpdate, run_underlying hm, MapKept.run_getObj_map hb, hc, MapKept.run_findKey hk hf, MapKept.run_setObj_map _ hb, Result.andThen]
  exact ha _
def ent6 (s : ByteArray) (g : FuncId) (n : Nat) : MapEntry := { key := .string s, val := .func (.func g) #[] #[], born := n }
def tests6 : Array MapEntry := #[ent6 ⟨#[61]⟩ 133 0, ent6 ⟨#[60, 62]⟩ 134 1, ent6 ⟨#[60]⟩ 135 2, ent6 ⟨#[60, 61]⟩ 136 3, ent6 ⟨#[62]⟩ 137 4, ent6 ⟨#[62, 61]⟩ 138 5]
set_option maxRecDepth 100000 in
theorem tests_c (w : World) : Calls Try.prog 116 #[] w (fun e w' => e = .returned (.map (some w.heap.size)) ∧ w' = w.alloc (.map tests6 6)) := by
  have hmm := @run_makeMap Try.prog
  have h1 : (Instr.mapUpdate 171 (.map (some w.heap.size)) (.string ⟨#[61]⟩) (.func (.func 133) #[] #[])).run Try.prog (w.alloc (.map #[] 0)) = .ok () (w.alloc (.map #[ent6 ⟨#[61]⟩ 133 0] 1)) := run_ins _ 9 115 _ _ rfl rfl rfl
  have h2 : (Instr.mapUpdate 171 (.map (some w.heap.size)) (.string ⟨#[60, 62]⟩) (.func (.func 134) #[] #[])).run Try.prog (w.alloc (.map #[ent6 ⟨#[61]⟩ 133 0] 1)) = .ok () (w.alloc (.map #[ent6 ⟨#[61]⟩ 133 0, ent6 ⟨#[60, 62]⟩ 134 1] 2)) := run_ins _ 9 115 _ _ rfl rfl rfl
  have h3 : (Instr.mapUpdate 171 (.map (some w.heap.size)) (.string ⟨#[60]⟩) (.func (.func 135) #[] #[])).run Try.prog (w.alloc (.map #[ent6 ⟨#[61]⟩ 133 0, ent6 ⟨#[60, 62]⟩ 134 1] 2)) = .ok () (w.alloc (.map #[ent6 ⟨#[61]⟩ 133 0, ent6 ⟨#[60, 62]⟩ 134 1, ent6 ⟨#[60]⟩ 135 2] 3)) := run_ins _ 9 115 _ _ rfl rfl rfl
  have h4 : (Instr.mapUpdate 171 (.map (some w.heap.size)) (.string ⟨#[60, 61]⟩) (.func (.func 136) #[] #[])).run Try.prog (w.alloc (.map #[ent6 ⟨#[61]⟩ 133 0, ent6 ⟨#[60, 62]⟩ 134 1, ent6 ⟨#[60]⟩ 135 2] 3)) = .ok () (w.alloc (.map #[ent6 ⟨#[61]⟩ 133 0, ent6 ⟨#[60, 62]⟩ 134 1, ent6 ⟨#[60]⟩ 135 2, ent6 ⟨#[60, 61]⟩ 136 3] 4)) := run_ins _ 9 115 _ _ rfl rfl rfl
  have h5 : (Instr.mapUpdate 171 (.map (some w.heap.size)) (.string ⟨#[62]⟩) (.func (.func 137) #[] #[])).run Try.prog (w.alloc (.map #[ent6 ⟨#[61]⟩ 133 0, ent6 ⟨#[60, 62]⟩ 134 1, ent6 ⟨#[60]⟩ 135 2, ent6 ⟨#[60, 61]⟩ 136 3] 4)) = .ok () (w.alloc (.map #[ent6 ⟨#[61]⟩ 133 0, ent6 ⟨#[60, 62]⟩ 134 1, ent6 ⟨#[60]⟩ 135 2, ent6 ⟨#[60, 61]⟩ 136 3, ent6 ⟨#[62]⟩ 137 4] 5)) := run_ins _ 9 115 _ _ rfl rfl rfl
  have h6 : (Instr.mapUpdate 171 (.map (some w.heap.size)) (.string ⟨#[62, 61]⟩) (.func (.func 138) #[] #[])).run Try.prog (w.alloc (.map #[ent6 ⟨#[61]⟩ 133 0, ent6 ⟨#[60, 62]⟩ 134 1, ent6 ⟨#[60]⟩ 135 2, ent6 ⟨#[60, 61]⟩ 136 3, ent6 ⟨#[62]⟩ 137 4] 5)) = .ok () (w.alloc (.map #[ent6 ⟨#[61]⟩ 133 0, ent6 ⟨#[60, 62]⟩ 134 1, ent6 ⟨#[60]⟩ 135 2, ent6 ⟨#[60, 61]⟩ 136 3, ent6 ⟨#[62]⟩ 137 4, ent6 ⟨#[62, 61]⟩ 138 5] 6)) := run_ins _ 9 115 _ _ rfl rfl rfl
  go_enter Try.func116, Try.ntmps116
  go_wp2
  go_ret
  exact ⟨rfl, rfl⟩
theorem enters_tests : Enters Try.prog 116 := fun xs w => by kernel_rfl
section
variable {nt : Nat} {w0 : W0} {S0 : Nat → Nat → Prop} {fr : Fr} {σ : Obs} {ops : Array Oper} {o1 o2 o3 : Oper} {rest : List Oper} {Q : Fr → Obs → Prop} {d1 d2 d3 i : Nat} {x : Operand} {s : ByteArray} {g : FuncId}
/-- the map is made, and asked -/
theorem uTests (hs : Instr.findNow .string (.string s) tests6.toList 0 = some (some (i, .func (.func g) #[] #[]))) (h : RL (cx nt w0 S0) ops rest ((d3, .tup [.one (.d (.fn g [])), vB true]) :: (d2, vS s) :: (d1, .junk) :: fr) σ Q)
    (ho1 : o1.op = .call { callee := .value (.func 116), args := #[], argTypes := #[] } := by rfl) (ho2 : o2.op = .move x := by rfl) (ho3 : o3.op = .lookup 171 (.tmp d1) (.tmp d2) true := by rfl)
    (g1 : o1.guard = none := by rfl) (g2 : o2.guard = none := by rfl) (g3 : o3.guard = none := by rfl) (e1 : o1.dst = some d1 := by rfl) (e2 : o2.dst = some d2 := by rfl) (e3 : o3.dst = some d3 := by rfl)
    (l1 : Nat.blt d1 nt = true := by rfl) (l2 : Nat.blt d2 nt = true := by rfl) (l3 : Nat.blt d3 nt = true := by rfl) (h12 : d1 ≠ d2 := by decide) (hx : ev ((d1, .junk) :: fr) x = some (vS s) := by rfl) : RL (cx nt w0 S0) ops (o1 :: o2 :: o3 :: rest) fr σ Q :=
  ⟨fun γ T S w a K hr hk => wpList_plain g1 fun K1 hK1 => by
    unfold Oper.wp
    rw [exec_fcall ho1]
    show Oper.upon Try.prog o1 a K1 K ((callFunc 116 (List.map a.eval #[].toList).toArray).run Try.prog w)
    rw [enters_tests, Oper.upon_enter]
    refine (tests_c w).mono fun e w' he => ?_
    obtain ⟨rfl, rfl⟩ := he
    have hr1 := (hr.grow (below_alloc w (.map tests6 6)) (fun _ _ h => h) (fun _ _ h => .inl h)).put (dst := some d1) (x := .junk) (v := .map (some w.heap.size)) l1 (.junk _)
    show K1 (a.put o1.dst _) _
    rw [e1]
    refine hK1 _ _ (wpList_plain g2 fun K2 hK2 => ?_)
    have v2 : (a.put (some d1) (.map (some w.heap.size))).eval x = .string s := val_sound (ev_sound hr1 hx)
    unfold Oper.wp
    have x2 : (execOp (a.put (some d1) (.map (some w.heap.size))).eval o2).run Try.prog (w.alloc (.map tests6 6)) = .ok (.value (.string s)) (w.alloc (.map tests6 6)) := by
      simp only [execOp, ho2, v2, Sem.run_pure]
    rw [show (cx nt w0 S0).P = Try.prog from rfl, x2, Oper.upon_value, e2]
    have hr2 := hr1.put (dst := some d2) (x := vS s) (v := .string s) l2 (.one (.v _ rfl))
    refine hK2 _ _ (wpList_plain g3 fun K3 hK3 => ?_)
    have z1 : d1 < a.tmps.size := by rw [hr.nt]; exact Nat.le_of_ble_eq_true l1
    have z2 : d2 < (a.put (some d1) (.map (some w.heap.size))).tmps.size := by rw [hr1.nt]; exact Nat.le_of_ble_eq_true l2
    have m1 : ((a.put (some d1) (.map (some w.heap.size))).put (some d2) (.string s)).eval (.tmp d1) = .map (some w.heap.size) := by
      show ((a.put (some d1) (.map (some w.heap.size))).put (some d2) (.string s)).tmps.getD d1 undef = _
      simp [Act.put, Array.getD_eq_getD_getElem?, h12.symm, z1]
    have m2 : ((a.put (some d1) (.map (some w.heap.size))).put (some d2) (.string s)).eval (.tmp d2) = .string s := by
      show ((a.put (some d1) (.map (some w.heap.size))).put (some d2) (.string s)).tmps.getD d2 undef = _
      exact put_getD _ z2
    have hb : (w.alloc (.map tests6 6)).heap[w.heap.size]? = some (.map tests6 6) := (MapKept.heap_alloc w _).1
    have hc : (Instr.checkKey tests6.isEmpty 10000 9 (.string s)).run Try.prog (w.alloc (.map tests6 6)) = .ok () (w.alloc (.map tests6 6)) := MapKept.run_checkKey (k := .string s) Try.underlying9 (by simp [MapKept.IsKey]) _ 9999
    have x3 : (execOp ((a.put (some d1) (.map (some w.heap.size))).put (some d2) (.string s)).eval o3).run Try.prog (w.alloc (.map tests6 6)) = .ok (.value (.tuple #[.func (.func g) #[] #[], .bool true])) (w.alloc (.map tests6 6)) := by
      simp only [execOp, ho3, m1, m2]
      simp [Instr.lookup, run_underlying Try.underlying171, MapKept.run_getObj_map hb, hc, MapKept.run_findKey Try.underlying9 hs]
    unfold Oper.wp
    rw [show (cx nt w0 S0).P = Try.prog from rfl, x3, Oper.upon_value, e3]
    refine hK3 _ _ (h.out γ T S _ _ K (hr2.put (dst := some d3) l3 (.tup _ [.func (.func g) #[] ([] : List Value).toArray, .bool true] rfl fun j y u hy hu => ?_)) hk)
    match j, hy, hu with
    | 0, hy, hu => simp only [List.getElem?_cons_zero, Option.some.injEq] at hy hu; subst hy; subst hu; exact .one (.fn _ [] [] rfl fun i q u hq => by simp at hq)
    | 1, hy, hu => simp only [List.getElem?_cons_succ, List.getElem?_cons_zero, Option.some.injEq] at hy hu; subst hy; subst hu; exact .one (.v _ rfl)
    | j + 2, hy, hu => simp at hy⟩
end
def truthV (b : Bool) : Val := ⟨1, if b = true then 1 else 0, 0, ⟨#[]⟩⟩
def testR (f : Int → Bool) (ne : Bool) (a b : Val) : Val × Int :=
  if valueRight a = false ∨ valueRight b = false then (zeroVal, 1)
  else if a.kind = 0 ∨ b.kind = 0 then (zeroVal, 0)
  else if a.kind ≠ b.kind ∧ (isNum a = false ∨ isNum b = false) then (zeroVal, 4)
  else if (agV a b).2 = false then (truthV ne, 0) else (truthV (f (agV a b).1), 0)
set_option maxRecDepth 100000 in
theorem test_g (s : ByteArray) (g : FuncId) (f : Int → Bool) (ne : Bool) (i : Nat) (hs : Instr.findNow .string (.string s) tests6.toList 0 = some (some (i, .func (.func g) #[] #[]))) (hne : (s.toList == ByteArray.toList ⟨#[60, 62]⟩) = ne) (hf : ∀ c, CallsV Try.prog g [vI c] (.val (vB (f c)))) (a b : Val) :
    CallsV Try.prog 101 [vS s, .dat (encV a), .dat (encV b)] (.val (.tup [.dat (encV (testR f ne a b).1), vI (testR f ne a b).2])) := by
  have h1 := valueRight_v a
  have h2 := valueRight_v b
  have h3 := number_v a
  have h4 := number_v b
  have h5 := against_v a b
  have h6 := truth_v ne
  have h7 := truth_v (f (agV a b).1)
  have h8 := hf (agV a b).1
  cases ne
  all_goals
    (refine callsV_of_W (Ty := Ty) ty_ok Try.func101 rfl rfl rfl fun w0 S0 => ?_; simp only [argsF, List.zipIdx_cons, List.zipIdx_nil, List.map_cons, List.map_nil, Nat.zero_add])
    repeat' (first | refine W_seq ?_ | refine W_region ?_ | (refine RL_nil ?_; (first | change W _ _ _ _ _ | change EndQ _ _ _ _ _ _ | change Exists _ | change EndG _ _ _ _ _ _ _ _ _ _ | change EndM _ _ _ _ _ _ _ | skip)) | (refine isRL ?_; first | refine uTests hs ?_ | refine uMv ?_ | refine uAs ?_ | refine uO ?_ | (refine isBin ?_; first | refine uBb true ?_ | refine uBb false ?_ | refine uP ?_ | refine uEq true ?_ | refine uEq false ?_) | (refine isLd ?_; first | refine uLp ?_ | refine uLb ?_ | refine uL1 ?_ | refine uL2 ?_ | refine uP ?_) | (refine isCl ?_; first | refine uC (h1) ?_ | refine uC (h2) ?_ | refine uC (h3) ?_ | refine uC (h4) ?_ | refine uC (h5) ?_ | refine uC (h6) ?_ | refine uC (h7) ?_ | refine uC (h8) ?_ | refine uDc (h8) ?_ | refine uP ?_) | (refine isFa ?_; first | refine uP ?_) | (refine isBd ?_; first | refine uBd ?_ | refine uP ?_) | (refine isSt ?_; first | refine uSw ?_ | refine uS ?_ | refine uSc ?_) | refine uBu true ?_ | refine uBu false ?_ | refine uP ?_ | refine uBx ?_ | refine uN ?_ | refine uON ?_ | refine uGsD (fun hb => ?_) (fun hb => ?_) | refine uGsE (fun hb => ?_) (fun hb => ?_) | refine uGsN (fun hb => ?_) (fun hb => ?_) | refine uGsND (fun hb => ?_) (fun hb => ?_) | refine uGsNE (fun hb => ?_) (fun hb => ?_) | refine uGsNB (fun hb => ?_) (fun hb => ?_) | refine uGs (fun hb => ?_) (fun hb => ?_)) | refine W_block ?_ | refine W_cond true (by rfl) (fun _ => ?_) (fun h => by cases h) | refine W_cond false (by rfl) (fun h => by cases h) (fun _ => ?_) | (refine W_skip ?_; (first | change W _ _ _ _ _ | change EndQ _ _ _ _ _ _ | change Exists _ | change EndG _ _ _ _ _ _ _ _ _ _ | change EndM _ _ _ _ _ _ _ | skip)) | (refine W_ret ?_; (first | change W _ _ _ _ _ | change EndQ _ _ _ _ _ _ | change Exists _ | change EndG _ _ _ _ _ _ _ _ _ _ | change EndM _ _ _ _ _ _ _ | skip)) | refine wCsD (fun hb => ?_) (fun hb => ?_) | refine wCsE (fun hb => ?_) (fun hb => ?_) | refine wCsN (fun hb => ?_) (fun hb => ?_) | refine wCsND (fun hb => ?_) (fun hb => ?_) | refine wCsNE (fun hb => ?_) (fun hb => ?_) | refine wCsNB (fun hb => ?_) (fun hb => ?_) | refine wCs (fun hb => ?_) (fun hb => ?_))
    all_goals exact end_r (by rfl) (by first | (simp [testR, isNum, truthV, zeroVal, encV, *]; done) | (simp [testR, isNum, truthV, zeroVal, encV, *]; rfl))
/-! ### the six tests -/
set_option maxRecDepth 100000 in
theorem t1_v (c : Int) : CallsV Try.prog 133 [vI c] (.val (vB (c == 0))) := by
  (refine callsV_of_W (Ty := Ty) ty_ok Try.func133 rfl rfl rfl fun w0 S0 => ?_; simp only [argsF, List.zipIdx_cons, List.zipIdx_nil, List.map_cons, List.map_nil, Nat.zero_add])
  repeat (first | refine W_seq ?_ | refine W_region ?_ | (refine RL_nil ?_; (first | change W _ _ _ _ _ | change EndQ _ _ _ _ _ _ | change Exists _ | change EndG _ _ _ _ _ _ _ _ _ _ | change EndM _ _ _ _ _ _ _ | skip)) | (refine isRL ?_; first | refine uMv ?_ | refine uAs ?_ | (refine isBin ?_; first | refine uBb true ?_ | refine uBb false ?_ | refine uP ?_ | refine uEq true ?_ | refine uEq false ?_) | refine uP ?_) | (refine W_skip ?_; (first | change W _ _ _ _ _ | change EndQ _ _ _ _ _ _ | change Exists _ | change EndG _ _ _ _ _ _ _ _ _ _ | change EndM _ _ _ _ _ _ _ | skip)) | (refine W_ret ?_; (first | change W _ _ _ _ _ | change EndQ _ _ _ _ _ _ | change Exists _ | change EndG _ _ _ _ _ _ _ _ _ _ | change EndM _ _ _ _ _ _ _ | skip)))
  exact end_r (by rfl) rfl
set_option maxRecDepth 100000 in
theorem t2_v (c : Int) : CallsV Try.prog 134 [vI c] (.val (vB (c != 0))) := by
  (refine callsV_of_W (Ty := Ty) ty_ok Try.func134 rfl rfl rfl fun w0 S0 => ?_; simp only [argsF, List.zipIdx_cons, List.zipIdx_nil, List.map_cons, List.map_nil, Nat.zero_add])
  repeat (first | refine W_seq ?_ | refine W_region ?_ | (refine RL_nil ?_; (first | change W _ _ _ _ _ | change EndQ _ _ _ _ _ _ | change Exists _ | change EndG _ _ _ _ _ _ _ _ _ _ | change EndM _ _ _ _ _ _ _ | skip)) | (refine isRL ?_; first | refine uMv ?_ | refine uAs ?_ | (refine isBin ?_; first | refine uBb true ?_ | refine uBb false ?_ | refine uP ?_ | refine uEq true ?_ | refine uEq false ?_) | refine uP ?_) | (refine W_skip ?_; (first | change W _ _ _ _ _ | change EndQ _ _ _ _ _ _ | change Exists _ | change EndG _ _ _ _ _ _ _ _ _ _ | change EndM _ _ _ _ _ _ _ | skip)) | (refine W_ret ?_; (first | change W _ _ _ _ _ | change EndQ _ _ _ _ _ _ | change Exists _ | change EndG _ _ _ _ _ _ _ _ _ _ | change EndM _ _ _ _ _ _ _ | skip)))
  exact end_r (by rfl) rfl
set_option maxRecDepth 100000 in
theorem t3_v (c : Int) : CallsV Try.prog 135 [vI c] (.val (vB (decide (c < 0)))) := by
  (refine callsV_of_W (Ty := Ty) ty_ok Try.func135 rfl rfl rfl fun w0 S0 => ?_; simp only [argsF, List.zipIdx_cons, List.zipIdx_nil, List.map_cons, List.map_nil, Nat.zero_add])
  repeat (first | refine W_seq ?_ | refine W_region ?_ | (refine RL_nil ?_; (first | change W _ _ _ _ _ | change EndQ _ _ _ _ _ _ | change Exists _ | change EndG _ _ _ _ _ _ _ _ _ _ | change EndM _ _ _ _ _ _ _ | skip)) | (refine isRL ?_; first | refine uMv ?_ | refine uAs ?_ | (refine isBin ?_; first | refine uBb true ?_ | refine uBb false ?_ | refine uP ?_ | refine uEq true ?_ | refine uEq false ?_) | refine uP ?_) | (refine W_skip ?_; (first | change W _ _ _ _ _ | change EndQ _ _ _ _ _ _ | change Exists _ | change EndG _ _ _ _ _ _ _ _ _ _ | change EndM _ _ _ _ _ _ _ | skip)) | (refine W_ret ?_; (first | change W _ _ _ _ _ | change EndQ _ _ _ _ _ _ | change Exists _ | change EndG _ _ _ _ _ _ _ _ _ _ | change EndM _ _ _ _ _ _ _ | skip)))
  exact end_r (by rfl) rfl
set_option maxRecDepth 100000 in
theorem t4_v (c : Int) : CallsV Try.prog 136 [vI c] (.val (vB (decide (c ≤ 0)))) := by
  (refine callsV_of_W (Ty := Ty) ty_ok Try.func136 rfl rfl rfl fun w0 S0 => ?_; simp only [argsF, List.zipIdx_cons, List.zipIdx_nil, List.map_cons, List.map_nil, Nat.zero_add])
  repeat (first | refine W_seq ?_ | refine W_region ?_ | (refine RL_nil ?_; (first | change W _ _ _ _ _ | change EndQ _ _ _ _ _ _ | change Exists _ | change EndG _ _ _ _ _ _ _ _ _ _ | change EndM _ _ _ _ _ _ _ | skip)) | (refine isRL ?_; first | refine uMv ?_ | refine uAs ?_ | (refine isBin ?_; first | refine uBb true ?_ | refine uBb false ?_ | refine uP ?_ | refine uEq true ?_ | refine uEq false ?_) | refine uP ?_) | (refine W_skip ?_; (first | change W _ _ _ _ _ | change EndQ _ _ _ _ _ _ | change Exists _ | change EndG _ _ _ _ _ _ _ _ _ _ | change EndM _ _ _ _ _ _ _ | skip)) | (refine W_ret ?_; (first | change W _ _ _ _ _ | change EndQ _ _ _ _ _ _ | change Exists _ | change EndG _ _ _ _ _ _ _ _ _ _ | change EndM _ _ _ _ _ _ _ | skip)))
  exact end_r (by rfl) rfl
set_option maxRecDepth 100000 in
theorem t5_v (c : Int) : CallsV Try.prog 137 [vI c] (.val (vB (decide (c > 0)))) := by
  (refine callsV_of_W (Ty := Ty) ty_ok Try.func137 rfl rfl rfl fun w0 S0 => ?_; simp only [argsF, List.zipIdx_cons, List.zipIdx_nil, List.map_cons, List.map_nil, Nat.zero_add])
  repeat (first | refine W_seq ?_ | refine W_region ?_ | (refine RL_nil ?_; (first | change W _ _ _ _ _ | change EndQ _ _ _ _ _ _ | change Exists _ | change EndG _ _ _ _ _ _ _ _ _ _ | change EndM _ _ _ _ _ _ _ | skip)) | (refine isRL ?_; first | refine uMv ?_ | refine uAs ?_ | (refine isBin ?_; first | refine uBb true ?_ | refine uBb false ?_ | refine uP ?_ | refine uEq true ?_ | refine uEq false ?_) | refine uP ?_) | (refine W_skip ?_; (first | change W _ _ _ _ _ | change EndQ _ _ _ _ _ _ | change Exists _ | change EndG _ _ _ _ _ _ _ _ _ _ | change EndM _ _ _ _ _ _ _ | skip)) | (refine W_ret ?_; (first | change W _ _ _ _ _ | change EndQ _ _ _ _ _ _ | change Exists _ | change EndG _ _ _ _ _ _ _ _ _ _ | change EndM _ _ _ _ _ _ _ | skip)))
  exact end_r (by rfl) rfl
set_option maxRecDepth 100000 in
theorem t6_v (c : Int) : CallsV Try.prog 138 [vI c] (.val (vB (decide (c ≥ 0)))) := by
  (refine callsV_of_W (Ty := Ty) ty_ok Try.func138 rfl rfl rfl fun w0 S0 => ?_; simp only [argsF, List.zipIdx_cons, List.zipIdx_nil, List.map_cons, List.map_nil, Nat.zero_add])
  repeat (first | refine W_seq ?_ | refine W_region ?_ | (refine RL_nil ?_; (first | change W _ _ _ _ _ | change EndQ _ _ _ _ _ _ | change Exists _ | change EndG _ _ _ _ _ _ _ _ _ _ | change EndM _ _ _ _ _ _ _ | skip)) | (refine isRL ?_; first | refine uMv ?_ | refine uAs ?_ | (refine isBin ?_; first | refine uBb true ?_ | refine uBb false ?_ | refine uP ?_ | refine uEq true ?_ | refine uEq false ?_) | refine uP ?_) | (refine W_skip ?_; (first | change W _ _ _ _ _ | change EndQ _ _ _ _ _ _ | change Exists _ | change EndG _ _ _ _ _ _ _ _ _ _ | change EndM _ _ _ _ _ _ _ | skip)) | (refine W_ret ?_; (first | change W _ _ _ _ _ | change EndQ _ _ _ _ _ _ | change Exists _ | change EndG _ _ _ _ _ _ _ _ _ _ | change EndM _ _ _ _ _ _ _ | skip)))
  exact end_r (by rfl) rfl
/-- the six of them -/
inductive Six : ByteArray → (Int → Bool) → Bool → Prop
  | eq : Six ⟨#[61]⟩ (fun c => c == 0) false
  | ne : Six ⟨#[60, 62]⟩ (fun c => c != 0) true
  | lt : Six ⟨#[60]⟩ (fun c => decide (c < 0)) false
  | le : Six ⟨#[60, 61]⟩ (fun c => decide (c ≤ 0)) false
  | gt : Six ⟨#[62]⟩ (fun c => decide (c > 0)) false
  | ge : Six ⟨#[62, 61]⟩ (fun c => decide (c ≥ 0)) false
theorem test_v {s : ByteArray} {f : Int → Bool} {ne : Bool} (h : Six s f ne) (a b : Val) : CallsV Try.prog 101 [vS s, .dat (encV a), .dat (encV b)] (.val (.tup [.dat (encV (testR f ne a b).1), vI (testR f ne a b).2])) := by
  cases h
  · exact test_g _ _ _ _ 0 rfl (by rw [ByteArray.toList_eq, ByteArray.toList_eq]; decide) t1_v a b
  · exact test_g _ _ _ _ 1 rfl (by rw [ByteArray.toList_eq]; decide) t2_v a b
  · exact test_g _ _ _ _ 2 rfl (by rw [ByteArray.toList_eq, ByteArray.toList_eq]; decide) t3_v a b
  · exact test_g _ _ _ _ 3 rfl (by rw [ByteArray.toList_eq, ByteArray.toList_eq]; decide) t4_v a b
  · exact test_g _ _ _ _ 4 rfl (by rw [ByteArray.toList_eq, ByteArray.toList_eq]; decide) t5_v a b
  · exact test_g _ _ _ _ 5 rfl (by rw [ByteArray.toList_eq, ByteArray.toList_eq]; decide) t6_v a b
end Go.Proofs.Ytjhkehloipmjfaa
