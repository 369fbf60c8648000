/- A nil slice written into a part of an object: the part is known as nil. -/
import Derived.Test.YtjhkehloipmjfaaMC
import Derived.Test.YtjhkehloipmjfaaMA
namespace Go.Proofs.Ytjhkehloipmjfaa
open Go.RowKit
section
variable {X : Ctx} {γ : Nat → Nat} {T : Nat → Value} {S : Nat → Nat → Prop} {w : World} {fr : Fr} {σ : Obs} {ops : Array Oper} {o : Oper} {rest : List Oper} {Q : Fr → Obs → Prop}
theorem RL_stV (hT : Good X) {k off : Nat} {t ty : TypeId} {p xx : Operand} {cs : List C} {x : Value} {i : TyI} (hw : wantA ops o fr = some true) (hdst : o.dst = none) (ho : o.op = .store t p xx) (hp : ev fr p = some (.one (.po k off))) (hk : look σ k = some (.obj ty cs)) (hx : ev fr xx = some (.one (.d (.v x)))) (hx1 : x.oneCell' = true) (hi : X.Ty t = some i) (hsz : i.size = 1) (hl : off < cs.length)
    (h : RL X ops rest fr ((k, .obj ty (cs.set off (.d (.v x)))) :: σ) Q) : RL X ops (o :: rest) fr σ Q :=
  ⟨fun γ T S w a K hr hkk => wpList_step fun K' hK => by
    rw [if_pos (wantA_sound hr hw)]
    obtain ⟨inf, d0, e1, e2, e3, _⟩ := (hT t i hi).get
    obtain ⟨us, g1, g2, g3, g4, g5⟩ := hr.st.obj k _ hk
    have g2 : RCL γ T S w cs us := g2
    have hxv : a.eval xx = x := val_sound (ev_sound hr hx)
    have hv := ev_sound hr hp
    cases hv with
    | one hv =>
      have hev : a.eval p = .pointer (some ⟨γ k, off, none⟩) := hv
      have hcx : x.cells = #[x] := by cases x <;> first | rfl | cases hx1
      have hst : (storeVar t ⟨γ k, off, none⟩ x).run X.P w = .ok () (w.setRow (γ k) (us.take off ++ [x] ++ us.drop (off + [x].length)).toArray) := by
        have := run_storeCells_at X.P (γ k) off ty [x] 0 us.toArray w g1 (by simp [g2.1]; omega) (by simp [hx1])
        simp only [Nat.add_zero] at this
        simp only [storeVar, Sem.run_bind, run_size e1, e3, hsz, Result.andThen_ok, hcx]
        exact this
      have hexec : (execOp a.eval o).run X.P w = .ok .skip (w.setRow (γ k) (us.take off ++ [x] ++ us.drop (off + [x].length)).toArray) := by
        simp only [execOp, ho, hev, hxv, Instr.storeAt, Instr.sureAddr, Sem.run_bind, Sem.run_pure, Result.andThen_ok, hst]
      unfold Oper.wp
      rw [hexec]
      have hk' : Kp S w (w.setRow (γ k) (us.take off ++ [x] ++ us.drop (off + [x].length)).toArray) := .row _ g3
      have hc : RCL γ T S w (cs.set off (.d (.v x))) (us.take off ++ [x] ++ us.drop (off + [x].length)) := splice_RCL (ds := [.d (.v x)]) g2 (RCL.raws (l := [x]) (by simp [hx1])) (by simp; omega)
      have hr' := hr.write (ob' := .obj ty (cs.set off (.d (.v x)))) hk (fun b => Iff.rfl) (fun b hb => hb) g3 _ ⟨_, setRow_heap w _ _ _ _ _ g1, hc.mono (fun _ _ hs => hs) hk', g3, g4, g5⟩
      exact hK _ _ (by
        have h9 := h.out γ T S _ a K hr' hkk
        rw [hdst]
        exact h9)⟩
end
section
variable {nt : Nat} {w0 : W0} {S0 : Nat → Nat → Prop} {fr : Fr} {σ : Obs} {ops : Array Oper} {o : Oper} {rest : List Oper} {Q : Fr → Obs → Prop}
theorem uStV {k off : Nat} {t ty : TypeId} {p xx : Operand} {cs c1 : List C} {x : Value} {i : TyI} (h : RL (cx nt w0 S0) ops rest fr ((k, .obj ty c1) :: σ) Q) (ho : o.op = .store t p xx := by rfl) (hw : wantA ops o fr = some true := by rfl) (hdst : o.dst = none := by rfl) (hp : ev fr p = some (.one (.po k off)) := by rfl) (hk : look σ k = some (.obj ty cs) := by rfl) (hx : ev fr xx = some (.one (.d (.v x))) := by rfl) (hx1 : x.oneCell' = true := by rfl) (hi : Ty t = some i := by rfl) (hsz : i.size = 1 := by rfl) (hl : Nat.blt off cs.length = true := by rfl)
    (hc : cs.set off (.d (.v x)) = c1 := by rfl) : RL (cx nt w0 S0) ops (o :: rest) fr σ Q :=
  RL_stV (X := cx nt w0 S0) ty_ok hw hdst ho hp hk hx hx1 hi hsz (by simpa [Nat.blt_eq] using hl) (hc ▸ h)
end
end Go.Proofs.Ytjhkehloipmjfaa
/- A contract that writes nothing of its caller's is a plain one. -/
namespace Go.Proofs.Ytjhkehloipmjfaa
open Go.RowKit
theorem CallsM.toV {P : Program} {f : FuncId} {args : List VV} {cs : List D} (h : CallsM P f args [] (.dat cs) []) : CallsV P f args (.val (.dat cs)) :=
  ⟨h.ent, fun S w vs ha hlt => by
    have hst : St (ictx P w (fun b => b < w.heap.size) S (pinM [] (fun _ => 0))) (fun _ => 0) (fun _ => undef) S w [] :=
      ⟨.refl _ _, hlt, fun _ hb => hb, fun _ _ hs => .inl hs, ⟨fun _ _ hs => hs, .refl⟩, fun k o hk => (by cases hk), fun k k' o o' hk => (by cases hk)⟩
    refine (h.out _ _ _ S w vs hst ⟨ha.1, fun j y v hy hv => ha.2 j y v hy hv _ _⟩).mono fun ex w' he => ?_
    obtain ⟨v, γ', T', S', rfl, hs', hv⟩ := he
    refine ⟨v, S', rfl, ⟨hs'.keep.os, hs'.keep.tape, hs'.keep.output, hs'.keep.size, fun k hk => hs'.keep.block k hk hk⟩, hs'.mon.1, fun b o hb => ?_, fun γ T => ?_⟩
    · rcases hs'.set b o hb with h1 | h1
      · exact .inl h1
      · have h1 : ¬ b < w.heap.size := h1
        exact .inr ⟨by omega, hs'.lt b o hb⟩
    · cases hv with | dat hv => exact .dat hv⟩
end Go.Proofs.Ytjhkehloipmjfaa
