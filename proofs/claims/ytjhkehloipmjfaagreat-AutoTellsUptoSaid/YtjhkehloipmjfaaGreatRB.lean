/- Walks: the reference's floats: their parts, which is ahead. Of the results nothing is said but that they are. -/
import Derived.Test.YtjhkehloipmjfaaGreatRA
import Derived.Test.YtjhkehloipmjfaaGreatMC
set_option maxRecDepth 100000
set_option maxHeartbeats 4000000
namespace Go.Proofs.YtjhkehloipmjfaaGreat
open Go.RowKit
section
variable {w0 : W0} {S0 : Nat → Nat → Prop} {nt : Nat} {fr : Fr} {σ : Obs} {o : Oper} {ops : Array Oper} {rest : List Oper} {d : Nat} {t t2 : TypeId} {Q : Fr → Obs → Prop} {xx yy : Operand} {a b : Int}
theorem ze3 {X : Ctx} {bop : BinOp} (hw : wantA ops o fr = some true) (hdst : o.dst = some d) (hd : Nat.blt d X.nt = true) (ho : o.op = .binOp bop t xx yy t2) {k k' : IntKind} (hx : ev fr xx = some (.one (.d (.v (.int k a))))) (hy : ev fr yy = some (.one (.d (.v (.int k' b)))))
    (hr : ∃ z, ∀ w, (binOp bop t (.int k a) (.int k' b)).run X.P w = .ok (.int k z) w) (hne : bop ≠ .eql ∧ bop ≠ .neq) (h : ∀ z, RL X ops rest ((d, .one (.d (.v (.int k z)))) :: fr) σ Q) : RL X ops (o :: rest) fr σ Q := by
  obtain ⟨z, hz⟩ := hr
  exact ⟨fun γ T S w a' K hrel hk => wpList_step fun K' hK => by
    rw [if_pos (zau hrel hw)]
    have h1 : a'.eval xx = .int k a := zaJ (zak hrel hx)
    have h2 : a'.eval yy = .int k' b := zaJ (zak hrel hy)
    have hex : (execOp a'.eval o).run X.P w = .ok (.value (.int k z)) w := by
      have hg : (eqGuard bop t xx yy (.int k a) (.int k' b)).run X.P w = .ok () w := by
        cases bop <;> first | rfl 
      simp only [execOp, ho, h1, h2, Sem.run_bind, hg, Result.andThen_ok, hz w, Sem.run_pure]
    unfold Oper.wp
    rw [hex]
    refine hK _ _ ((h z).out γ T S w _ K ?_ hk)
    rw [hdst]
    exact hrel.put (dst := some d) hd (.one (.v _ rfl))⟩
theorem uQuo (h : ∀ z, RL (cx nt w0 S0) ops rest ((d, vI z) :: fr) σ Q) (ho : o.op = .binOp .quo t xx yy t2 := by rfl) (hdst : o.dst = some d := by rfl) (hd : Nat.blt d nt = true := by rfl) (hw : wantA ops o fr = some true := by rfl) (hx : ev fr xx = some (vI a) := by rfl) (hy : ev fr yy = some (vI b) := by rfl) (hb : b ≠ 0 := by omega) : RL (cx nt w0 S0) ops (o :: rest) fr σ Q :=
  ze3 (X := cx nt w0 S0) hw hdst hd ho hx hy ⟨IntKind.i64.wrap (a.tdiv b), fun w => by simp [binOp, Op.intDiv, hb]⟩ ⟨by decide, by decide⟩ h
theorem uShl {k k' : IntKind} (h : ∀ z, RL (cx nt w0 S0) ops rest ((d, .one (.d (.v (.int k z)))) :: fr) σ Q) (ho : o.op = .binOp .shl t xx yy t2 := by rfl) (hdst : o.dst = some d := by rfl) (hd : Nat.blt d nt = true := by rfl) (hw : wantA ops o fr = some true := by rfl) (hx : ev fr xx = some (.one (.d (.v (.int k a)))) := by rfl) (hy : ev fr yy = some (.one (.d (.v (.int k' b)))) := by rfl) (hb : 0 ≤ b := by first | decide | omega | (rw [IntKind.wrap_u64]; omega)) : RL (cx nt w0 S0) ops (o :: rest) fr σ Q :=
  ze3 (X := cx nt w0 S0) hw hdst hd ho hx hy ⟨k.wrap (a * 2 ^ min b.toNat k.bits), fun w => by simp [binOp, Op.shift, Int.not_lt.2 hb]⟩ ⟨by decide, by decide⟩ h
theorem uShr {k k' : IntKind} (h : ∀ z, RL (cx nt w0 S0) ops rest ((d, .one (.d (.v (.int k z)))) :: fr) σ Q) (ho : o.op = .binOp .shr t xx yy t2 := by rfl) (hdst : o.dst = some d := by rfl) (hd : Nat.blt d nt = true := by rfl) (hw : wantA ops o fr = some true := by rfl) (hx : ev fr xx = some (.one (.d (.v (.int k a)))) := by rfl) (hy : ev fr yy = some (.one (.d (.v (.int k' b)))) := by rfl) (hb : 0 ≤ b := by first | decide | omega | (rw [IntKind.wrap_u64]; omega)) : RL (cx nt w0 S0) ops (o :: rest) fr σ Q :=
  ze3 (X := cx nt w0 S0) hw hdst hd ho hx hy ⟨a.fdiv (2 ^ min b.toNat k.bits), fun w => by simp [binOp, Op.shift, Int.not_lt.2 hb]⟩ ⟨by decide, by decide⟩ h
end
section
variable {w0 : W0} {S0 : Nat → Nat → Prop} {nt : Nat} {fr : Fr} {τ0 σB : Obs} {o : Oper} {ops : Array Oper} {rest : List Oper} {d : Nat} {t t2 : TypeId} {QD : Fr → Obs → Prop} {K : List Cr} {C0 : Cons} {j : Nat} {xx yy : Operand} {a b : Int}
theorem zkj {X : Ctx} {γ : Nat → Nat} {T : Nat → Value} {S : Nat → Nat → Prop} {w : World} {σ : Obs} {a' : Act} (ho : o.op = .binOp .quo t xx yy t2) (hrel : Rel X γ T S w fr σ a') (hx : ev fr xx = some (vI a)) (hy : ev fr yy = some (vI b)) (hb : b ≠ 0) : (execOp a'.eval o).run X.P w = .ok (.value (.int .i64 (IntKind.i64.wrap (a.tdiv b)))) w := by
  have h1 : a'.eval xx = .int .i64 a := zaJ (zak hrel hx)
  have h2 : a'.eval yy = .int .i64 b := zaJ (zak hrel hy)
  have hg : (eqGuard .quo t xx yy (.int .i64 a) (.int .i64 b)).run X.P w = .ok () w := rfl
  simp only [execOp, ho, h1, h2, Sem.run_bind, hg, Result.andThen_ok]
  simp [binOp, Op.intDiv, hb]
theorem mQuo (h : DSeq (cx nt w0 S0) ops τ0 σB QD (j + 1) K C0 rest ((d, vI (IntKind.i64.wrap (a.tdiv b))) :: fr)) (ho : o.op = .binOp .quo t xx yy t2 := by rfl) (hdst : o.dst = some d := by rfl) (hd : Nat.blt d nt = true := by rfl) (hw : wantA ops o (restr ops o fr) = some true := by rfl) (hx : ev (restr ops o fr) xx = some (vI a) := by rfl) (hy : ev (restr ops o fr) yy = some (vI b) := by rfl) (hb : b ≠ 0 := by omega) (hm : MenOk o K (vI (IntKind.i64.wrap (a.tdiv b))) := by (repeat (first | exact zaO _ _ | refine zaK (by first | exact Or.inl rfl | exact Or.inr rfl) ?_))) : DSeq (cx nt w0 S0) ops τ0 σB QD j K C0 (o :: rest) fr :=
  zbI (X := cx nt w0 S0) hdst hd hm (.inr ⟨hw, fun _ _ S w _ hr => .inl ⟨_, w, zkj ho hr hx hy hb, S, zbc S w, .one (.v _ rfl)⟩⟩) h
end
abbrev OneI : VV → Obs → Prop := fun y σ1 => ∃ i : Int, y = vI i ∧ σ1 = [] ∧ True
abbrev OneB : VV → Obs → Prop := fun y σ1 => ∃ i : Bool, y = vB i ∧ σ1 = [] ∧ True
abbrev IntB : VV → Obs → Prop := fun y σ1 => ∃ i : Int × Bool, y = .tup [vI i.1, vB i.2] ∧ σ1 = [] ∧ True
theorem zg6 (a b : Int) : CallsN Tryz.prog 203 [vI a, vI b] [] OneI := by
  (refine zam (Ty := Ty) zag Tryz.func203 rfl rfl rfl (by rfl) fun w0 S0 hp => ?_; simp only [argsF, List.zipIdx_cons, List.zipIdx_nil, List.map_cons, List.map_nil, Nat.zero_add])
  repeat' (first | refine zac ?_ | refine zaa ?_ | ((first | refine zab ?_ | refine zaf ?_ | refine zae ?_); (first | change W _ _ _ _ _ | change EndN _ _ _ _ _ _ | change Exists _ )) | (refine isRL ?_; first | refine uMv ?_ | refine uAs ?_ | (refine isBin ?_; first | refine uP ?_) ) | ((first | refine wCsD ?_ ?_ ) <;> intro hb))
  all_goals exact zaw (by rfl) rfl ghasA ⟨_, rfl, rfl, trivial⟩
theorem zi1 (n : Int) (s : Bool) (m e : Int) : CallsN Tryz.prog 204 [vI n, vB s, vI m, vI e] [] OneI := by
  (refine zam (Ty := Ty) zag Tryz.func204 rfl rfl rfl (by rfl) fun w0 S0 hp => ?_; simp only [argsF, List.zipIdx_cons, List.zipIdx_nil, List.map_cons, List.map_nil, Nat.zero_add])
  repeat' (first | refine zac ?_ | refine zaa ?_ | ((first | refine zab ?_ | refine zaf ?_ | refine zae ?_); (first | change W _ _ _ _ _ | change EndN _ _ _ _ _ _ | change Exists _ )) | (refine isRL ?_; first | refine uShr (fun z => ?_) | refine uMv ?_ | refine uAs ?_ | (refine isBin ?_; first | refine uP ?_) | refine uP ?_) | ((first | refine wCsD ?_ ?_ | refine wCs ?_ ?_) <;> intro hb))
  all_goals exact zaw (by rfl) rfl ghasA ⟨_, rfl, rfl, trivial⟩
theorem zlv (a b : Nat) : CallsN Tryz.prog 191 [vF a, vF b] [] OneI := by
  have h1 := zcZ a
  have h2 := zcZ b
  have h3 := zef a
  have h4 := zef b
  (refine zam (Ty := Ty) zag Tryz.func191 rfl rfl rfl (by rfl) fun w0 S0 hp => ?_; simp only [argsF, List.zipIdx_cons, List.zipIdx_nil, List.map_cons, List.map_nil, Nat.zero_add])
  repeat' (first | refine zac ?_ | refine zaa ?_ | ((first | refine zab ?_ | refine zaf ?_ | refine zae ?_); (first | change W _ _ _ _ _ | change EndN _ _ _ _ _ _ | change Exists _ )) | (refine isRL ?_; first | refine uMv ?_ | refine uAs ?_ | refine uO ?_ | (refine isBin ?_; first | refine uP ?_) | (refine isCl ?_; first | refine uC (h1) ?_ | refine uC (h2) ?_ | refine uC (h3) ?_ | refine uC (h4) ?_ ) | refine uP ?_ | ((first | refine uGs ?_ ?_) <;> intro hb)) | refine wT fun _ => ?_ | ((first | refine wCsD ?_ ?_ | refine wCsND ?_ ?_ | refine wCs ?_ ?_) <;> intro hb))
  all_goals exact zaw (by rfl) rfl ghasA ⟨_, rfl, rfl, trivial⟩
theorem zgh (n : Int) (f : Nat) : CallsN Tryz.prog 190 [vI n, vF f] [] IntB := by
  obtain ⟨h1, ⟨e0, e1⟩, m0, m1⟩ := zhM f
  generalize pA f = a at h1
  generalize pB f = e at h1 e0 e1
  generalize pC f = m at h1 m0 m1
  have hs := zg6 n (-9223372036854775808)
  have hs0 := zg6 n 0
  have hsv := zg6 n
  have hbw := zi1 n a
  (refine zam (Ty := Ty) zag Tryz.func190 rfl rfl rfl (by rfl) fun w0 S0 hp => ?_; simp only [argsF, List.zipIdx_cons, List.zipIdx_nil, List.map_cons, List.map_nil, Nat.zero_add])
  by_cases hn : e = 2047 ∧ m ≠ 0
  · obtain ⟨n1, n2⟩ := hn
    repeat' (first | refine zac ?_ | refine zaa ?_ | ((first | refine zab ?_ | refine zae ?_); (first | change W _ _ _ _ _ | change Exists _ )) | (refine isRL ?_; first | refine uMv ?_ | refine uAs ?_ | (refine isBin ?_; first | refine uBb true ?_ ) | (refine isCl ?_; first | refine uC (h1) ?_ ) | refine uP ?_ ) | refine wT fun _ => ?_ )
    exact zaw (by rfl) rfl ghasA ⟨(_, _), rfl, rfl, trivial⟩
  by_cases he : 1086 ≤ e
  · have hcc : ¬ m = 0 → ¬ e = 2047 := fun h2 h3 => hn ⟨h3, h2⟩
    by_cases hm0 : m = 0
    · repeat' (first | refine zac ?_ | refine zaa ?_ | ((first | refine zab ?_ | refine zaf ?_ | refine zae ?_); (first | change W _ _ _ _ _ | change Exists _ )) | (refine isRL ?_; first | refine uNx hs (fun i _ => ?_) | refine uMv ?_ | refine uAs ?_ | refine uO ?_ | (refine isBin ?_; first | refine uBb true ?_ | refine uBb false ?_ | refine uP ?_) | (refine isCl ?_; first | refine uC (h1) ?_ ) | refine uP ?_ | ((first | refine uGsD ?_ ?_ | refine uGs ?_ ?_) <;> intro hb)) | refine wT fun _ => ?_ | refine wF fun _ => ?_ | ((first | refine wCs ?_ ?_) <;> intro hb))
      all_goals exact zaw (by rfl) rfl ghasA ⟨(_, _), rfl, rfl, trivial⟩
    · have hc2 := hcc hm0
      repeat' (first | refine zac ?_ | refine zaa ?_ | ((first | refine zab ?_ | refine zaf ?_ | refine zae ?_); (first | change W _ _ _ _ _ | change Exists _ )) | (refine isRL ?_; first | refine uMv ?_ | refine uAs ?_ | refine uO ?_ | (refine isBin ?_; first | refine uBb true ?_ | refine uBb false ?_ | refine uP ?_) | (refine isCl ?_; first | refine uC (h1) ?_ ) | refine uP ?_ | ((first | refine uGsD ?_ ?_ | refine uGs ?_ ?_) <;> intro hb)) | refine wT fun _ => ?_ | refine wF fun _ => ?_ | ((first | refine wCs ?_ ?_) <;> intro hb))
      all_goals exact zaw (by rfl) rfl ghasA ⟨(_, _), rfl, rfl, trivial⟩
  by_cases e00 : e = 0
  · by_cases hm0 : m = 0
    · repeat' (first | refine zac ?_ | refine zaa ?_ | ((first | refine zab ?_ | refine zaf ?_ | refine zae ?_); (first | change W _ _ _ _ _ | change Exists _ )) | (refine isRL ?_; first | refine uNx hs0 (fun i _ => ?_) | refine uMv ?_ | refine uAs ?_ | refine uO ?_ | (refine isBin ?_; first | refine uBb true ?_ | refine uBb false ?_ ) | (refine isCl ?_; first | refine uC (h1) ?_ ) | refine uP ?_ | ((first | refine uGs ?_ ?_) <;> intro hb)) | refine wT fun _ => ?_ | refine wF fun _ => ?_ | ((first | refine wCs ?_ ?_) <;> intro hb))
      all_goals exact zaw (by rfl) rfl ghasA ⟨(_, _), rfl, rfl, trivial⟩
    · cases a
      · repeat' (first | refine zac ?_ | refine zaa ?_ | ((first | refine zab ?_ | refine zaf ?_ ); (first | change W _ _ _ _ _ )) | (refine isRL ?_; first | refine uMv ?_ | refine uAs ?_ | refine uO ?_ | (refine isBin ?_; first | refine uIb ?_ | refine uBb true ?_ | refine uBb false ?_ ) | (refine isCl ?_; first | refine uC (h1) ?_ ) | refine uP ?_ ) | refine zad ?_ | refine wT fun _ => ?_ | refine wF fun _ => ?_ )
        refine zaL (α := Int × Int) (fun x => [(0, vI n), (6, vB false), (7, vI x.2), (8, vI x.1), (9, vI 1)]) (fun _ => []) (fun x => -1075 ≤ x.2 ∧ x.2 ≤ 2000) (fun x => (-x.2).toNat) (m, 1 - 1075) ⟨by dsimp only; omega, by dsimp only; omega⟩ subA subA ?_
        rintro ⟨m', e'⟩ ⟨q1, q2⟩
        dsimp only at q1 q2 ⊢
        by_cases hlt : e' < 0
        · repeat' (first | refine zac ?_ | refine zaa ?_ | ((first | refine zab ?_ | refine zaf ?_ | refine zae ?_); (first | change W _ _ _ _ _ | change Exists _ )) | (refine isRL ?_; first | refine uNx (hbw m' e') (fun i _ => ?_) | refine uQuo (fun z => ?_) | refine uMv ?_ | refine uAs ?_ | (refine isBin ?_; first | refine uIb ?_ | refine uBb true ?_ | refine uP ?_) ) | refine zad ?_ | refine wT fun _ => ?_ | ((first | refine wCsD ?_ ?_ ) <;> intro hb))
          · exact zaw (by rfl) rfl ghasA ⟨(_, _), rfl, rfl, trivial⟩
          · rename_i z _
            exact ⟨(z, e' + 1), by dsimp only; omega, ⟨by dsimp only; omega, by dsimp only; omega⟩, subA, subA⟩
        · repeat' (first | refine zac ?_ | refine zaa ?_ | ((first | refine zab ?_ | refine zaD ?_ | refine zae ?_); (first | change W _ _ _ _ _ | change EndN _ _ _ _ _ _ )) | (refine isRL ?_; first | refine uShl (fun z => ?_) | refine uNx (hsv _) (fun i _ => ?_) | refine uMv ?_ | refine uAs ?_ | (refine isBin ?_; first | refine uBb false ?_ | refine uP ?_) | refine uP ?_ ) | refine wF fun _ => ?_ )
          exact zaw (by rfl) rfl ghasA ⟨(_, _), rfl, rfl, trivial⟩
      · repeat' (first | refine zac ?_ | refine zaa ?_ | ((first | refine zab ?_ | refine zaf ?_ ); (first | change W _ _ _ _ _ )) | (refine isRL ?_; first | refine uMv ?_ | refine uAs ?_ | refine uO ?_ | (refine isBin ?_; first | refine uIb ?_ | refine uBb true ?_ | refine uBb false ?_ ) | (refine isCl ?_; first | refine uC (h1) ?_ ) | refine uP ?_ ) | refine zad ?_ | refine wT fun _ => ?_ | refine wF fun _ => ?_ )
        refine zaL (α := Int × Int) (fun x => [(0, vI n), (6, vB true), (7, vI x.2), (8, vI x.1), (9, vI (-1))]) (fun _ => []) (fun x => -1075 ≤ x.2 ∧ x.2 ≤ 2000) (fun x => (-x.2).toNat) (m, 1 - 1075) ⟨by dsimp only; omega, by dsimp only; omega⟩ subA subA ?_
        rintro ⟨m', e'⟩ ⟨q1, q2⟩
        dsimp only at q1 q2 ⊢
        by_cases hlt : e' < 0
        · repeat' (first | refine zac ?_ | refine zaa ?_ | ((first | refine zab ?_ | refine zaf ?_ | refine zae ?_); (first | change W _ _ _ _ _ | change Exists _ )) | (refine isRL ?_; first | refine uNx (hbw m' e') (fun i _ => ?_) | refine uQuo (fun z => ?_) | refine uMv ?_ | refine uAs ?_ | (refine isBin ?_; first | refine uIb ?_ | refine uBb true ?_ | refine uP ?_) ) | refine zad ?_ | refine wT fun _ => ?_ | ((first | refine wCsD ?_ ?_ ) <;> intro hb))
          · exact zaw (by rfl) rfl ghasA ⟨(_, _), rfl, rfl, trivial⟩
          · rename_i z _
            exact ⟨(z, e' + 1), by dsimp only; omega, ⟨by dsimp only; omega, by dsimp only; omega⟩, subA, subA⟩
        · repeat' (first | refine zac ?_ | refine zaa ?_ | ((first | refine zab ?_ | refine zaD ?_ | refine zae ?_); (first | change W _ _ _ _ _ | change EndN _ _ _ _ _ _ )) | (refine isRL ?_; first | refine uShl (fun z => ?_) | refine uNx (hsv _) (fun i _ => ?_) | refine uMv ?_ | refine uAs ?_ | (refine isBin ?_; first | refine uBb false ?_ | refine uP ?_) | refine uP ?_ ) | refine wF fun _ => ?_ )
          exact zaw (by rfl) rfl ghasA ⟨(_, _), rfl, rfl, trivial⟩
  · cases a
    · repeat' (first | refine zac ?_ | refine zaa ?_ | ((first | refine zab ?_ | refine zaf ?_ ); (first | change W _ _ _ _ _ )) | (refine isRL ?_; first | refine uMv ?_ | refine uAs ?_ | refine uO ?_ | (refine isBin ?_; first | refine uIb ?_ | refine uBb false ?_ ) | (refine isCl ?_; first | refine uC (h1) ?_ ) | refine uP ?_ ) | refine zad ?_ | refine wF fun _ => ?_ )
      refine zaL (α := Int × Int) (fun x => [(0, vI n), (6, vB false), (7, vI x.2), (8, vI x.1), (9, vI 1)]) (fun _ => []) (fun x => -1075 ≤ x.2 ∧ x.2 ≤ 2000) (fun x => (-x.2).toNat) (m + 4503599627370496, e - 1075) ⟨by dsimp only; omega, by dsimp only; omega⟩ subA subA ?_
      rintro ⟨m', e'⟩ ⟨q1, q2⟩
      dsimp only at q1 q2 ⊢
      by_cases hlt : e' < 0
      · repeat' (first | refine zac ?_ | refine zaa ?_ | ((first | refine zab ?_ | refine zaf ?_ | refine zae ?_); (first | change W _ _ _ _ _ | change Exists _ )) | (refine isRL ?_; first | refine uNx (hbw m' e') (fun i _ => ?_) | refine uQuo (fun z => ?_) | refine uMv ?_ | refine uAs ?_ | (refine isBin ?_; first | refine uIb ?_ | refine uBb true ?_ | refine uP ?_) ) | refine zad ?_ | refine wT fun _ => ?_ | ((first | refine wCsD ?_ ?_ ) <;> intro hb))
        · exact zaw (by rfl) rfl ghasA ⟨(_, _), rfl, rfl, trivial⟩
        · rename_i z _
          exact ⟨(z, e' + 1), by dsimp only; omega, ⟨by dsimp only; omega, by dsimp only; omega⟩, subA, subA⟩
      · repeat' (first | refine zac ?_ | refine zaa ?_ | ((first | refine zab ?_ | refine zaD ?_ | refine zae ?_); (first | change W _ _ _ _ _ | change EndN _ _ _ _ _ _ )) | (refine isRL ?_; first | refine uShl (fun z => ?_) | refine uNx (hsv _) (fun i _ => ?_) | refine uMv ?_ | refine uAs ?_ | (refine isBin ?_; first | refine uBb false ?_ | refine uP ?_) | refine uP ?_ ) | refine wF fun _ => ?_ )
        exact zaw (by rfl) rfl ghasA ⟨(_, _), rfl, rfl, trivial⟩
    · repeat' (first | refine zac ?_ | refine zaa ?_ | ((first | refine zab ?_ | refine zaf ?_ ); (first | change W _ _ _ _ _ )) | (refine isRL ?_; first | refine uMv ?_ | refine uAs ?_ | refine uO ?_ | (refine isBin ?_; first | refine uIb ?_ | refine uBb false ?_ ) | (refine isCl ?_; first | refine uC (h1) ?_ ) | refine uP ?_ ) | refine zad ?_ | refine wT fun _ => ?_ | refine wF fun _ => ?_ )
      refine zaL (α := Int × Int) (fun x => [(0, vI n), (6, vB true), (7, vI x.2), (8, vI x.1), (9, vI (-1))]) (fun _ => []) (fun x => -1075 ≤ x.2 ∧ x.2 ≤ 2000) (fun x => (-x.2).toNat) (m + 4503599627370496, e - 1075) ⟨by dsimp only; omega, by dsimp only; omega⟩ subA subA ?_
      rintro ⟨m', e'⟩ ⟨q1, q2⟩
      dsimp only at q1 q2 ⊢
      by_cases hlt : e' < 0
      · repeat' (first | refine zac ?_ | refine zaa ?_ | ((first | refine zab ?_ | refine zaf ?_ | refine zae ?_); (first | change W _ _ _ _ _ | change Exists _ )) | (refine isRL ?_; first | refine uNx (hbw m' e') (fun i _ => ?_) | refine uQuo (fun z => ?_) | refine uMv ?_ | refine uAs ?_ | (refine isBin ?_; first | refine uIb ?_ | refine uBb true ?_ | refine uP ?_) ) | refine zad ?_ | refine wT fun _ => ?_ | ((first | refine wCsD ?_ ?_ ) <;> intro hb))
        · exact zaw (by rfl) rfl ghasA ⟨(_, _), rfl, rfl, trivial⟩
        · rename_i z _
          exact ⟨(z, e' + 1), by dsimp only; omega, ⟨by dsimp only; omega, by dsimp only; omega⟩, subA, subA⟩
      · repeat' (first | refine zac ?_ | refine zaa ?_ | ((first | refine zab ?_ | refine zaD ?_ | refine zae ?_); (first | change W _ _ _ _ _ | change EndN _ _ _ _ _ _ )) | (refine isRL ?_; first | refine uShl (fun z => ?_) | refine uNx (hsv _) (fun i _ => ?_) | refine uMv ?_ | refine uAs ?_ | (refine isBin ?_; first | refine uBb false ?_ | refine uP ?_) | refine uP ?_ ) | refine wF fun _ => ?_ )
        exact zaw (by rfl) rfl ghasA ⟨(_, _), rfl, rfl, trivial⟩
end Go.Proofs.YtjhkehloipmjfaaGreat
