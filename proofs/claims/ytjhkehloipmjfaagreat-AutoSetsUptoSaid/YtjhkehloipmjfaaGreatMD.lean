/- Rows of texts of its own: read and written at an index, cleared; a slice that is nil or not. A slice of texts is copied, the copy compacted, and its length asked for. -/
import Derived.Test.YtjhkehloipmjfaaGreatWI
import Derived.Lib.SliceRun
import Derived.Lib.SlicesCompact
import Derived.Test.YtjhkehloipmjfaaGreatMB
import Derived.Orders
import Derived.Test.YtjhkehloipmjfaaGreatMC
namespace Go.Proofs.YtjhkehloipmjfaaGreat
open Go.RowKit
section
variable {X : Ctx} {γ : Nat → Nat} {T : Nat → Value} {S : Nat → Nat → Prop} {w w' : World} {fr : Fr} {σ : Obs} {a : Act} {o : Oper} {ops : Array Oper} {rest : List Oper} {Q : Fr → Obs → Prop} {d k lo n c : Nat} {t el : TypeId} {i e : TyI} {xx ix p : Operand} {L : List ByteArray}
/-- an element's place in a window -/
theorem win_ix (hT : Good X) {z : Int} (hr : Rel X γ T S w fr σ a) (ho : o.op = .indexAddr t xx ix) (h1 : ev fr xx = some (.one (.win k lo n c 1))) (h2 : (ev fr ix).bind intV = some z) (h0 : 0 ≤ z) (hlt : z < n) (hi : X.Ty t = some i) (htag : i.tag = 2) (he : X.Ty i.elem = some e) (hsz : e.size = 1) :
    ∃ v, (execOp a.eval o).run X.P w = .ok (.value v) w ∧ RV γ T S w (.one (.pe k (lo + z.toNat) 0 1)) v := by
  obtain ⟨nv, hn1, hn2⟩ := Option.bind_eq_some_iff.1 h2
  obtain ⟨kk, hk⟩ := intV_sound hn2 (ev_sound hr hn1)
  obtain ⟨inf, d0, g1, g2, g3, g4, g5, g6, g7, g8, g9, g10⟩ := (hT t i hi).get
  obtain ⟨inf', d', g1', g2', g3', _⟩ := (hT _ e he).get
  rw [htag] at g10
  cases d0 with
  | slice elt =>
    simp only [elemOfD] at g7
    subst g7
    have hv := ev_sound hr h1
    cases hv with
    | one hv =>
      have hev : a.eval xx = .slice (some ⟨γ k, lo * 1, none⟩) n c := hv
      refine ⟨.pointer (some ⟨γ k, lo * 1 + z.toNat * e.size, none⟩), ?_, .one (by simp only [RC, hsz, Nat.add_mul, Nat.add_zero])⟩
      simp only [execOp, ho, hev, hk, Instr.indexAt, asIntOf, Sem.run_bind, Sem.run_pure, run_underlying g2, Result.andThen_ok]
      rw [if_pos ⟨h0, hlt⟩]
      simp only [Sem.run_bind, run_size g1', Result.andThen_ok, Sem.run_pure, Addr.add_lit, g3']
  | _ => simp [tagOf] at g10
theorem RL_wix (hT : Good X) {z : Int} (hw : wantA ops o fr = some true) (hdst : o.dst = some d) (hd : Nat.blt d X.nt = true) (ho : o.op = .indexAddr t xx ix) (h1 : ev fr xx = some (.one (.win k lo n c 1))) (h2 : (ev fr ix).bind intV = some z) (h0 : 0 ≤ z) (hlt : z < n) (hi : X.Ty t = some i) (htag : i.tag = 2) (he : X.Ty i.elem = some e) (hsz : e.size = 1)
    (h : RL X ops rest ((d, .one (.pe k (lo + z.toNat) 0 1)) :: fr) σ Q) : RL X ops (o :: rest) fr σ Q :=
  ⟨fun γ T S w a K hr hk => wpList_step fun K' hK => by
    rw [if_pos (wantA_sound hr hw)]
    obtain ⟨v, e1, e2⟩ := win_ix hT hr ho h1 h2 h0 hlt hi htag he hsz
    unfold Oper.wp
    rw [e1]
    refine hK _ _ (h.out γ T S w _ K ?_ hk)
    rw [hdst]
    exact hr.put (dst := some d) hd e2⟩
variable {τ0 σB : Obs} {KK : List Cr} {C : Cons} {QD : Fr → Obs → Prop} {j : Nat}
/-- is a slice nil? one with elements is not -/
theorem RL_eqn {yy : Operand} {t2 : TypeId} {rows : List (List D)} (hP : X.P = Tryz.prog) (hw : wantA ops o fr = some true) (hdst : o.dst = some d) (hd : Nat.blt d X.nt = true) (ho : o.op = .binOp .eql 76 xx yy t2) (hx : (ev fr xx).bind rowsV = some rows) (hy : ev fr yy = some (.one (.d (.v (.slice none 0 0)))))
    (h : ∀ b : Bool, (rows ≠ [] → b = false) → RL X ops rest ((d, vB b) :: fr) σ Q) : RL X ops (o :: rest) fr σ Q :=
  ⟨fun γ T S w a K hr hk => wpList_step fun K' hK => by
    rw [if_pos (wantA_sound hr hw)]
    obtain ⟨xv, hx1, hx2⟩ := Option.bind_eq_some_iff.1 hx
    have hrd := rowsV_sound hx2 (ev_sound hr hx1)
    have hyv := val_sound (ev_sound hr hy)
    generalize hev : a.eval xx = u at hrd
    cases hrd with
    | sl _ A c sz vs cap lim nil row val spot mem =>
      have hexec : (execOp a.eval o).run X.P w = .ok (.value (.bool A.isNone)) w := by
        rw [hP]
        have hq := Go.Lib.run_eql_slice_nil (P := Tryz.prog) w 76 9 A rows.length c 0 0 Tryz.underlying76
        simp only [execOp, ho, hev, hyv, eqGuard, Sem.run_bind, Sem.run_pure]
        simp
        rw [hq]; rfl
      unfold Oper.wp
      rw [hexec]
      refine hK _ _ ((h A.isNone fun hne => ?_).out γ T S w _ K ?_ hk)
      · cases A with
        | none => exact absurd (nil rfl) hne
        | some ad => rfl
      · rw [hdst]
        exact hr.put (dst := some d) hd (.one (.v _ rfl))⟩
end
end Go.Proofs.YtjhkehloipmjfaaGreat
namespace Go.Proofs.YtjhkehloipmjfaaGreat
open Go.RowKit Go.Sort
/-- the library's contract -/
structure CompG (P : Program) (f : FuncId) : Prop where
  ent : Enters P f
  out : ∀ (blk off cap : Nat) (zs : List (List UInt8)) (w : World), Holds encStr w blk off zs.toArray → zs.length ≤ 9223372036854775807 → zs.length ≤ cap →
    Calls P f #[.slice (some ⟨blk, off, none⟩) zs.length cap] w fun e w' => e = .returned (.slice (some ⟨blk, off, none⟩) (Go.Lib.compact zs).length cap) ∧ ∃ q, w' = putRow encStr (Sort.ahead w q) blk off (Go.Lib.compact zs ++ List.replicate (zs.length - (Go.Lib.compact zs).length) []).toArray
  none : ∀ (p : Option Addr) (cap : Nat) (w : World), Calls P f #[.slice p 0 cap] w fun e w' => e = .returned (.slice p 0 cap) ∧ w' = w
def compN (l : List ByteArray) : Nat := (Go.Lib.compact (l.map bytesL)).length
section
variable {X : Ctx} {γ : Nat → Nat} {T : Nat → Value} {S S' : Nat → Nat → Prop} {w w' : World} {fr : Fr} {σ : Obs} {a : Act} {o : Oper} {ops : Array Oper} {rest : List Oper} {Q : Fr → Obs → Prop}
theorem put_eval {d : Nat} {v : Value} (h : d < a.tmps.size) : (a.put (some d) v).eval (.tmp d) = v := by
  show (a.tmps.setIfInBounds d v).getD d undef = v
  rw [Array.getD_eq_getD_getElem?, Array.getElem?_setIfInBounds]
  simp [h]
theorem comp_below {base g q : Nat} {w1 : World} {d : Array (List UInt8)} (hb : Below base w w1) (hg : base ≤ g) : Below base w (putRow encStr (Sort.ahead w1 q) g 0 d) := by
  refine ⟨hb.os, hb.tape, hb.output, by simpa using hb.size, fun k hk => ?_⟩
  have : g ≠ k := by omega
  have h2 := hb.block k hk
  simp only [putRow, mapBlock, Sort.ahead, Array.getElem?_modify, if_neg this]
  exact h2
theorem RL_cc (hT : Good X) {o1 o2 o3 : Oper} {d1 d2 d3 : Nat} {f1 f2 : FuncId} {xs1 : Array Operand} {ats1 ats2 : Array TypeId} {args : List VV} {e t : TypeId} {i : TyI} {l : List ByteArray}
    (hw1 : wantA ops o1 fr = some true) (hd1 : o1.dst = some d1) (hb1 : Nat.blt d1 X.nt = true) (ho1 : o1.op = .call { callee := .value (.func f1), args := xs1, argTypes := ats1 }) (ha : argsL fr xs1.toList = some args) (hc1 : CallsV X.P f1 args (.own e 1 (l.map encS)))
    (hw2 : wantA ops o2 ((d1, .junk) :: fr) = some true) (hd2 : o2.dst = some d2) (hb2 : Nat.blt d2 X.nt = true) (ho2 : o2.op = .call { callee := .value (.func f2), args := #[.tmp d1], argTypes := ats2 }) (hc2 : CompG X.P f2)
    (hw3 : wantA ops o3 ((d2, .junk) :: (d1, .junk) :: fr) = some true) (hd3 : o3.dst = some d3) (hb3 : Nat.blt d3 X.nt = true) (ho3 : o3.op = .call { callee := .builtin .len, args := #[.tmp d2], argTypes := #[t] }) (hi : X.Ty t = some i) (htag : i.tag = 2)
    (h : RL X ops rest ((d3, vI (compN l : Int)) :: (d2, .junk) :: (d1, .junk) :: fr) σ Q) : RL X ops (o1 :: o2 :: o3 :: rest) fr σ Q :=
  ⟨fun γ T S w a K hr hk => wpList_step fun K1 hK1 => by
    rw [if_pos (wantA_sound hr hw1)]
    unfold Oper.wp
    rw [exec_fcall ho1, hc1.ent]
    refine (hc1.out S w _ (argsL_sound hr ha) hr.st.lt).mono fun ex w1 he => ?_
    obtain ⟨v1, S1, rfl, hb, hS, hS', hv⟩ := he
    obtain ⟨hrd, n, ys, hown, _⟩ := hv
    have r1 : Rel X γ T S w1 ((d1, .junk) :: fr) σ (a.put o1.dst v1) := by
      rw [hd1]; exact (hr.grow hb (fun _ _ h => h) (fun _ _ h => .inl h)).put (dst := some d1) hb1 (.junk _)
    refine hK1 _ _ (wpList_step fun K2 hK2 => ?_)
    rw [if_pos (wantA_sound r1 hw2)]
    have hev1 : (a.put o1.dst v1).eval (.tmp d1) = v1 := by
      rw [hd1]; exact put_eval (by rw [hr.nt]; simpa [Nat.blt_eq] using hb1)
    -- the third operation
    have third : ∀ (v2 : Value) (w2 : World), Below w.heap.size w w2 → (∃ A c, v2 = .slice A (compN l) c) → K2 ((a.put o1.dst v1).put o2.dst v2) w2 := by
      rintro v2 w2 hbw ⟨A, c, rfl⟩
      have r2 : Rel X γ T S w2 ((d2, .junk) :: (d1, .junk) :: fr) σ ((a.put o1.dst v1).put o2.dst (.slice A (compN l) c)) := by
        rw [hd1, hd2]
        exact ((hr.grow hbw (fun _ _ h => h) (fun _ _ h => .inl h)).put (dst := some d1) hb1 (.junk _)).put (dst := some d2) hb2 (.junk _)
      refine hK2 _ _ (wpList_step fun K3 hK3 => ?_)
      rw [if_pos (wantA_sound r2 hw3)]
      obtain ⟨inf, d0, g1, g2, g3, g4, g5, g6, g7, g8, g9, g10⟩ := (hT t i hi).get
      rw [htag] at g10
      have hev2 : ((a.put o1.dst v1).put o2.dst (.slice A (compN l) c)).eval (.tmp d2) = .slice A (compN l) c := by
        rw [hd2]; exact put_eval (by rw [r1.nt]; simpa [Nat.blt_eq] using hb2)
      cases d0 with
      | slice el =>
        have hexec : (execOp ((a.put o1.dst v1).put o2.dst (.slice A (compN l) c)).eval o3).run X.P w2 = .ok (.value (.int .i64 (compN l))) w2 := by
          simp [execOp, ho3, resolve, invoke, builtin, hev2, Builtin.len_, run_underlying g2, goInt]
        unfold Oper.wp
        rw [hexec]
        refine hK3 _ _ (h.out γ T S w2 _ K ?_ hk)
        rw [hd3]
        exact r2.put (dst := some d3) hb3 (.one (.v _ rfl))
      | _ => simp [tagOf] at g10
    unfold Oper.wp
    have hargs : (([Operand.tmp d1] : List Operand).map (a.put o1.dst v1).eval).toArray = #[v1] := by rw [List.map_singleton, hev1]
    rw [exec_fcall ho2, hargs, hc2.ent]
    have hown0 : w1.ownsRow 0 e 1 v1 n ys := by
      refine ⟨hown.1, ?_⟩
      rcases hown.2 with q3 | ⟨g, cap, cur, q3, _, q4⟩
      · exact .inl q3
      · exact .inr ⟨g, cap, cur, q3, Nat.zero_le _, q4⟩
    obtain ⟨hn, hys, _⟩ := own_vals hrd hown0
    subst hn; subst hys
    rcases hown.2 with ⟨h1, h2⟩ | ⟨g, cap, cur, h1, hbase, hbk, h3, h4, h5, h6⟩
    · have hl0 : l = [] := List.length_eq_zero_iff.1 h2
      subst h1
      refine (hc2.none Option.none 0 w1).mono fun ex w' he => ?_
      obtain ⟨rfl, rfl⟩ := he
      exact third (.slice Option.none 0 0) w' hb ⟨Option.none, 0, by subst hl0; rfl⟩
    · have hsl : (l.map bytesL).length = l.length := List.length_map _
      have hH : Holds encStr w1 g 0 (l.map bytesL).toArray := holds_of_block hbk (by rw [hsl, ← h6, Nat.mul_one])
      have := hc2.out g 0 cap (l.map bytesL) w1 hH (by rw [hsl]; unfold maxLen at h4; omega) (by rw [hsl]; exact h3)
      rw [hsl] at this
      subst h1
      refine this.mono fun ex w' he => ?_
      obtain ⟨rfl, q, rfl⟩ := he
      exact third (.slice (some ⟨g, 0, Option.none⟩) (compN l) cap) _ (comp_below hb hbase) ⟨_, _, rfl⟩⟩
end
section
variable {w0 : W0} {S0 : Nat → Nat → Prop} {nt : Nat} {fr fr1 : Fr} {σ σ1 : Obs} {o o1 o2 o3 : Oper} {ops : Array Oper} {rest : List Oper} {Q : Fr → Obs → Prop} {d d1 d2 d3 : Nat} {t : TypeId} {i : TyI}
theorem uCc {f1 f2 : FuncId} {xs1 : Array Operand} {ats1 ats2 : Array TypeId} {args : List VV} {e : TypeId} (l : List ByteArray) (hc1 : CallsV Tryz.prog f1 args (.own e 1 (l.map encS))) (hc2 : CompG Tryz.prog f2) (h : RL (cx nt w0 S0) ops rest ((d3, vI (compN l : Int)) :: (d2, .junk) :: (d1, .junk) :: fr) σ Q)
    (ho1 : o1.op = .call { callee := .value (.func f1), args := xs1, argTypes := ats1 } := by rfl) (ho2 : o2.op = .call { callee := .value (.func f2), args := #[.tmp d1], argTypes := ats2 } := by rfl) (ho3 : o3.op = .call { callee := .builtin .len, args := #[.tmp d2], argTypes := #[t] } := by rfl) (ha : argsL fr xs1.toList = some args := by rfl)
    (hd1 : o1.dst = some d1 := by rfl) (hd2 : o2.dst = some d2 := by rfl) (hd3 : o3.dst = some d3 := by rfl) (hb1 : Nat.blt d1 nt = true := by rfl) (hb2 : Nat.blt d2 nt = true := by rfl) (hb3 : Nat.blt d3 nt = true := by rfl) (hw1 : wantA ops o1 fr = some true := by rfl) (hw2 : wantA ops o2 ((d1, .junk) :: fr) = some true := by rfl) (hw3 : wantA ops o3 ((d2, .junk) :: (d1, .junk) :: fr) = some true := by rfl)
    (hi : Ty t = some i := by rfl) (htag : i.tag = 2 := by rfl) : RL (cx nt w0 S0) ops (o1 :: o2 :: o3 :: rest) fr σ Q :=
  RL_cc (X := cx nt w0 S0) ty_ok hw1 hd1 hb1 ho1 ha hc1 hw2 hd2 hb2 ho2 hc2 hw3 hd3 hb3 ho3 hi htag h
theorem uEn {xx yy : Operand} {t2 : TypeId} {rows : List (List D)} (h : ∀ b : Bool, (rows ≠ [] → b = false) → RL (cx nt w0 S0) ops rest ((d, vB b) :: fr) σ Q) (ho : o.op = .binOp .eql 76 xx yy t2 := by rfl) (hw : wantA ops o fr = some true := by rfl) (hdst : o.dst = some d := by rfl) (hd : Nat.blt d nt = true := by rfl) (hx : (ev fr xx).bind rowsV = some rows := by rfl) (hy : ev fr yy = some (.one (.d (.v (.slice none 0 0)))) := by rfl) : RL (cx nt w0 S0) ops (o :: rest) fr σ Q :=
  RL_eqn (X := cx nt w0 S0) rfl hw hdst hd ho hx hy h
end
set_option maxRecDepth 100000 in
theorem clone_v (l : List ByteArray) (hl : l.length ≤ 1000000) (hne : l ≠ []) : CallsV Tryz.prog 61 [vL (l.map encS)] (.own 9 1 (l.map encS)) := by
  have hlm : (l.map encS).length = l.length := List.length_map _
  have hz : sized 1 (l.map encS) = true := sized_S l
  (refine callsV_of_W (Ty := Ty) ty_ok Tryz.func61 rfl rfl rfl fun w0 S0 => ?_; simp only [argsF, List.zipIdx_cons, List.zipIdx_nil, List.map_cons, List.map_nil, Nat.zero_add])
  repeat (first | refine W_seq ?_ | refine W_region ?_ | ((first | refine RL_nil ?_ ); (first | change W _ _ _ _ _ )) | (refine isRL ?_; first | refine uMv ?_ | refine uAs ?_ ) )
  refine uEn fun b hb => ?_
  obtain rfl : b = false := hb (by simpa using hne)
  repeat (first | refine W_seq ?_ | refine W_region ?_ | ((first | refine RL_nil ?_ | refine W_skip ?_ | refine W_ret ?_); (first | change W _ _ _ _ _ | change EndQ _ _ _ _ _ _ )) | (refine isRL ?_; first | refine uMv ?_ | refine uAs ?_ | (refine isCl ?_; first | refine uAk ?_ ) | refine uBs ?_ ) | refine wF fun _ => ?_)
  exact ⟨5, by rfl, by rfl⟩
set_option maxRecDepth 100000 in
theorem clone0_v : CallsV Tryz.prog 61 [vL []] (.val (vL [])) := by
  (refine callsV_of_W (Ty := Ty) ty_ok Tryz.func61 rfl rfl rfl fun w0 S0 => ?_; simp only [argsF, List.zipIdx_cons, List.zipIdx_nil, List.map_cons, List.map_nil, Nat.zero_add])
  repeat (first | refine W_seq ?_ | refine W_region ?_ | ((first | refine RL_nil ?_ ); (first | change W _ _ _ _ _ )) | (refine isRL ?_; first | refine uMv ?_ | refine uAs ?_ ) )
  refine uEn fun b hb => ?_
  cases b with
  | true =>
    repeat (first | refine W_seq ?_ | refine W_region ?_ | ((first | refine RL_nil ?_ | refine W_ret ?_); (first | change W _ _ _ _ _ | skip)) | (refine isRL ?_; first | refine uAs ?_ ) | refine wT fun _ => ?_ )
    exact end_r (by rfl) rfl
  | false =>
    repeat (first | refine W_seq ?_ | refine W_region ?_ | ((first | refine RL_nil ?_ | refine W_skip ?_ | refine W_ret ?_); (first | change W _ _ _ _ _ | change EndQ _ _ _ _ _ _ )) | (refine isRL ?_; first | refine uMv ?_ | refine uAs ?_ | (refine isCl ?_; first | refine uAk ?_ ) | refine uBs ?_ ) | refine wF fun _ => ?_)
    exact end_r (by rfl) rfl
set_option maxRecDepth 100000 in
theorem compact0_v : CallsV Tryz.prog 60 [vL []] (.val (vL [])) := by
  (refine callsV_of_W (Ty := Ty) ty_ok Tryz.func60 rfl rfl rfl fun w0 S0 => ?_; simp only [argsF, List.zipIdx_cons, List.zipIdx_nil, List.map_cons, List.map_nil, Nat.zero_add])
  repeat (first | refine W_seq ?_ | refine W_region ?_ | ((first | refine RL_nil ?_ | refine W_ret ?_ ); (first | change W _ _ _ _ _ | skip)) | (refine isRL ?_; first | refine uMv ?_ | refine uAs ?_ | (refine isBin ?_; first | refine uBb true ?_ ) | (refine isCl ?_; first | refine uP ?_) ) | refine wT fun _ => ?_ )
  exact end_r (by rfl) rfl
end Go.Proofs.YtjhkehloipmjfaaGreat
/- Functions that panic: contracts, and code that ends by a panic. -/
namespace Go.Proofs.YtjhkehloipmjfaaGreat
open Go.RowKit
section
variable {X : Ctx} {γ γ' : Nat → Nat} {T T' : Nat → Value} {S S' : Nat → Nat → Prop} {w w' : World} {fr : Fr} {σ σ0 σ1 : Obs} {a : Act} {o : Oper}
variable {ops : Array Oper} {Qp : List PanicEntry → Fr → Obs → Prop}
/-- a step of which all is known beforehand -/
theorem RL_raw {rest : List Oper} {Q : Fr → Obs → Prop} {d : Nat} {x : VV} (hw : wantA ops o fr = some true) (hdst : o.dst = some d) (hd : Nat.blt d X.nt = true)
    (hraw : ∀ γ T S w a, Rel X γ T S w fr σ a → ∃ v w' S', (execOp a.eval o).run X.P w = .ok (.value v) w' ∧ Grows S S' w w' ∧ ∀ γ T, RV γ T S' w' x v) (h : RL X ops rest ((d, x) :: fr) σ Q) : RL X ops (o :: rest) fr σ Q :=
  ⟨fun γ T S w a K hr hk => wpList_step fun K' hK => by
    rw [if_pos (wantA_sound hr hw)]
    obtain ⟨v, w', S', h1, ⟨g1, g2, g3⟩, h2⟩ := hraw γ T S w a hr
    unfold Oper.wp
    rw [h1]
    refine hK _ _ (h.out γ T S' w' _ K ?_ hk)
    rw [hdst]
    exact (hr.grow g1 g2 g3).put (dst := some d) hd (h2 γ T)⟩
end
section
variable {nt : Nat} {w0 : W0} {S0 : Nat → Nat → Prop} {fr : Fr} {σ τ0 : Obs} {ops : Array Oper} {o : Oper} {Qp : List PanicEntry → Fr → Obs → Prop} {xx : Operand}
theorem uRaw {rest : List Oper} {Q : Fr → Obs → Prop} {d : Nat} {x : VV} (hraw : ∀ γ T S w a, Rel (cx nt w0 S0) γ T S w fr σ a → ∃ v w' S', (execOp a.eval o).run Tryz.prog w = .ok (.value v) w' ∧ Grows S S' w w' ∧ ∀ γ T, RV γ T S' w' x v) (h : RL (cx nt w0 S0) ops rest ((d, x) :: fr) σ Q)
    (hw : wantA ops o fr = some true := by rfl) (hdst : o.dst = some d := by rfl) (hd : Nat.blt d nt = true := by rfl) : RL (cx nt w0 S0) ops (o :: rest) fr σ Q := RL_raw (X := cx nt w0 S0) hw hdst hd hraw h
end
end Go.Proofs.YtjhkehloipmjfaaGreat
/- Rows of plain values, one cell each, in place: written and read at an index. -/
namespace Go.Proofs.YtjhkehloipmjfaaGreat
open Go.RowKit
section
variable {X : Ctx} {γ : Nat → Nat} {T : Nat → Value} {S : Nat → Nat → Prop} {w w' : World} {fr : Fr} {σ : Obs} {a : Act} {o : Oper} {ops : Array Oper} {rest : List Oper} {Q : Fr → Obs → Prop} {d k m : Nat} {t e : TypeId} {i : TyI} {xx p : Operand} {rows : List (List D)} {x : Value}
theorem arr_cellv (h : RO X γ T S w k (.arr e 1 rows)) (hs : rows[m]? = some [.v x]) : w.cell? ⟨γ k, m, none⟩ = some x := by
  obtain ⟨us, h1, h2, h3, _⟩ := h
  obtain ⟨_, h5⟩ := h3 m _ hs
  obtain ⟨u, h6, h7⟩ := h5 0 (.v x) rfl
  have hu : u = x := by cases h7; rfl
  rw [cell_of_row w _ _ _ _ _ h1]
  simpa [hu] using h6
theorem RL_pelv (hT : Good X) (hw : wantA ops o fr = some true) (hdst : o.dst = some d) (hd : Nat.blt d X.nt = true) (ho : o.op = .load t p) (h1 : ev fr p = some (.one (.pe k m 0 1))) (hk : look σ k = some (.arr e 1 rows)) (hs : rows[m]? = some [.v x]) (hx1 : x.oneCell' = true) (hi : X.Ty t = some i) (ha : i.agg = false)
    (h : RL X ops rest ((d, .one (.d (.v x))) :: fr) σ Q) : RL X ops (o :: rest) fr σ Q :=
  ⟨fun γ T S w a K hr hkk => wpList_step fun K' hK => by
    rw [if_pos (wantA_sound hr hw)]
    obtain ⟨inf, d0, e1, e2, e3, e4, e5, e6, _⟩ := (hT t i hi).get
    have hagg : (isAgg t).run X.P w = .ok false w := by
      unfold isAgg
      rw [Sem.run_bind, run_underlying e2 w, ← ha, ← e6]
      cases d0 <;> rfl
    have hcell := arr_cellv (hr.st.obj k _ hk) hs
    have hv := ev_sound hr h1
    cases hv with
    | one hv =>
      have hev : a.eval p = .pointer (some ⟨γ k, m, none⟩) := by
        have : a.eval p = .pointer (some ⟨γ k, m * 1 + 0, none⟩) := hv
        simpa using this
      have hex : (execOp a.eval o).run X.P w = .ok (.value x) w := by
        simp only [execOp, ho, hev, Instr.loadAt, Instr.sureAddr, loadVar, load, Sem.run, Sem.run_bind, Sem.run_pure, Result.andThen_ok, hagg, hcell, Bool.false_eq_true, if_false]
      unfold Oper.wp
      rw [hex]
      refine hK _ _ (h.out γ T S w _ K ?_ hkk)
      rw [hdst]
      exact hr.put (dst := some d) hd (.one (.v _ hx1))⟩
theorem RL_pev (hT : Good X) {rows' : List (List D)} (hw : wantA ops o fr = some true) (hdst : o.dst = none) (ho : o.op = .store t p xx) (h1 : ev fr p = some (.one (.pe k m 0 1))) (hk : look σ k = some (.arr e 1 rows)) (hm : m < rows.length) (hx : ev fr xx = some (.one (.d (.v x)))) (hx1 : x.oneCell' = true) (hrows : rows.take m ++ [[.v x]] ++ rows.drop (m + 1) = rows') (hi : X.Ty t = some i) (hsz : i.size = 1)
    (h : RL X ops rest fr ((k, .arr e 1 rows') :: σ) Q) : RL X ops (o :: rest) fr σ Q :=
  ⟨fun γ T S w a K hr hkk => wpList_step fun K' hK => by
    rw [if_pos (wantA_sound hr hw)]
    obtain ⟨inf, d0, e1, e2, e3, e4, e5, e6, _⟩ := (hT t i hi).get
    have hcs : FlatR S w 1 [[D.v x]] [x] := FlatR.rep (sz := 1) (q := [D.v x]) (vs := [x]) (.cons (.v _ hx1) .nil) rfl 1 [x] rfl fun i' j' hi' hj' => by
      have e1 : i' = 0 := by omega
      have e2 : j' = 0 := by omega
      subst e1; subst e2; rfl
    obtain ⟨cur, g1, g2, g3⟩ := arr_write (lo := m) (m := 1) (hr.st.obj k _ hk) hcs rfl (by omega)
    rw [hrows] at g3
    have hxv : a.eval xx = x := val_sound (ev_sound hr hx)
    have hv := ev_sound hr h1
    cases hv with
    | one hv =>
      have hev : a.eval p = .pointer (some ⟨γ k, m * 1, none⟩) := by
        have : a.eval p = .pointer (some ⟨γ k, m * 1 + 0, none⟩) := hv
        simpa using this
      have hcx : x.cells = #[x] := by cases x <;> first | rfl | cases hx1
      have hst : (storeVar t ⟨γ k, m * 1, none⟩ x).run X.P w = .ok () (w.setRow (γ k) (cur.toList.take (m * 1) ++ [x] ++ cur.toList.drop (m * 1 + [x].length)).toArray) := by
        have := run_storeCells_at X.P (γ k) (m * 1) e [x] 0 cur w g1 (by simpa using g2) (by simp [hx1])
        simp only [Nat.add_zero] at this
        simp only [storeVar, Sem.run_bind, run_size e1, e3, hsz, Result.andThen_ok, hcx]
        exact this
      have hexec : (execOp a.eval o).run X.P w = .ok .skip (w.setRow (γ k) (cur.toList.take (m * 1) ++ [x] ++ cur.toList.drop (m * 1 + [x].length)).toArray) := by
        simp only [execOp, ho, hev, hxv, Instr.storeAt, Instr.sureAddr, Sem.run_bind, Sem.run_pure, Result.andThen_ok, hst]
      unfold Oper.wp
      rw [hexec]
      exact hK _ _ (by
        have := (hr.chg hk rfl rfl (onlyAt_row w _ _) g3).1
        have h9 := h.out γ T S _ a K this hkk
        rw [hdst]
        exact h9)⟩
end
section
variable {nt : Nat} {w0 : W0} {S0 : Nat → Nat → Prop} {fr : Fr} {σ : Obs} {ops : Array Oper} {o : Oper} {rest : List Oper} {Q : Fr → Obs → Prop} {d k lo n c m : Nat} {t el : TypeId} {i e : TyI} {xx ix p : Operand} {rows rows' : List (List D)} {x : Value}
theorem uWix {z : Int} (h : RL (cx nt w0 S0) ops rest ((d, .one (.pe k (lo + z.toNat) 0 1)) :: fr) σ Q) (ho : o.op = .indexAddr t xx ix := by rfl) (h1 : ev fr xx = some (.one (.win k lo n c 1)) := by rfl) (h2 : (ev fr ix).bind intV = some z := by rfl) (h0 : 0 ≤ z := by omega) (hlt : z < n := by omega) (hw : wantA ops o fr = some true := by rfl) (hdst : o.dst = some d := by rfl) (hd : Nat.blt d nt = true := by rfl)
    (hi : Ty t = some i := by rfl) (htag : i.tag = 2 := by rfl) (he : Ty i.elem = some e := by rfl) (hsz : e.size = 1 := by rfl) : RL (cx nt w0 S0) ops (o :: rest) fr σ Q :=
  RL_wix (X := cx nt w0 S0) ty_ok hw hdst hd ho h1 h2 h0 hlt hi htag he hsz h
theorem uPev (rows' : List (List D)) (h : RL (cx nt w0 S0) ops rest fr ((k, .arr el 1 rows') :: σ) Q) (ho : o.op = .store t p xx := by rfl) (h1 : ev fr p = some (.one (.pe k m 0 1)) := by rfl) (hk : look σ k = some (.arr el 1 rows) := by rfl) (hx : ev fr xx = some (.one (.d (.v x))) := by rfl) (hrows : rows.take m ++ [[.v x]] ++ rows.drop (m + 1) = rows' := by rfl) (hm : m < rows.length := by first | decide | omega)
    (hw : wantA ops o fr = some true := by rfl) (hdst : o.dst = none := by rfl) (hx1 : x.oneCell' = true := by rfl) (hi : Ty t = some i := by rfl) (hsz : i.size = 1 := by rfl) : RL (cx nt w0 S0) ops (o :: rest) fr σ Q :=
  RL_pev (X := cx nt w0 S0) ty_ok hw hdst ho h1 hk hm hx hx1 hrows hi hsz h
theorem uPelv (x : Value) (h : RL (cx nt w0 S0) ops rest ((d, .one (.d (.v x))) :: fr) σ Q) (hs : rows[m]? = some [.v x]) (ho : o.op = .load t p := by rfl) (h1 : ev fr p = some (.one (.pe k m 0 1)) := by rfl) (hk : look σ k = some (.arr el 1 rows) := by rfl) (hw : wantA ops o fr = some true := by rfl) (hdst : o.dst = some d := by rfl) (hd : Nat.blt d nt = true := by rfl)
    (hx1 : x.oneCell' = true := by rfl) (hi : Ty t = some i := by rfl) (ha : i.agg = false := by rfl) : RL (cx nt w0 S0) ops (o :: rest) fr σ Q :=
  RL_pelv (X := cx nt w0 S0) ty_ok hw hdst hd ho h1 hk hs hx1 hi ha h
end
end Go.Proofs.YtjhkehloipmjfaaGreat
/- Regions whose order is open, with a front that is walked in the text's order and a tail that waits for the front. One tail is walked here: a struct put behind a slice of one's own (a zero struct appended, then written at its place, beside the slice's own place). -/
namespace Go.Proofs.YtjhkehloipmjfaaGreat
open Go.RowKit
def preOk (l tl : List Oper) : Bool :=
  Region.noSelect (l ++ tl).toArray && regOkA (l ++ tl).toArray l &&
  ((List.range tl.length).all fun j => match tl[j]? with
    | some o => (o.after.all fun e => !Region.binds .any e || decide (e.on < l.length + j)) && (reachO (l ++ tl) (l.length + j) [l.length + j]).contains l.length
    | none => false) &&
  (List.range l.length).all fun j => (reachO (l ++ tl) l.length [l.length]).contains j
section
variable {X : Ctx} {fr fr0 : Fr} {σ σ' : Obs} {a : Act} {w : World} {l tl : List Oper} {o : Oper} {τ0 σB : Obs} {xs : Nat → VV} {es : Nat → Eff} {fs : Nat → Fr} {Ks : Nat → List Cr} {Cs : Nat → Cons}
theorem regionL_pre (hne : 0 < tl.length) (h : Found X (l ++ tl).toArray l τ0 σB fr0 xs es fs Ks Cs) (hpre : preOk l tl = true) {QQ : Exit → Act → World → Prop}
    (hq : ∀ γ T S w a listed fuel, Rel X γ T S w (fs l.length) (finS τ0 σB (Ks l.length) (Cs l.length)) a → listed.size = (l ++ tl).length → (∀ j, j < l.length → listed.getD j true = true) → (∀ j, l.length ≤ j → j < (l ++ tl).length → listed.getD j true = false) → tl.length ≤ fuel → wpAny X.P .any (l ++ tl).toArray QQ fuel listed a w) :
    ∀ (fuel : Nat) (listed : Array Bool) (a : Act) (w : World), listed.size = (l ++ tl).length →
    (∀ i p, (l ++ tl)[i]? = some p → listed.getD i true = true → ∀ e ∈ p.after, Region.binds .any e = true → listed.getD e.on true = true) → fuel = (listed.toList.filter (fun b => !b)).length → (∀ j, l.length ≤ j → j < (l ++ tl).length → listed.getD j true = false) → InvL X l τ0 σB fr0 xs es (fun j => listed.getD j true) a w → wpAny X.P .any (l ++ tl).toArray QQ fuel listed a w := by
  unfold preOk at hpre
  simp only [Bool.and_eq_true, List.all_eq_true] at hpre
  obtain ⟨⟨⟨_, _⟩, htail⟩, hreach⟩ := hpre
  have hsum : (l ++ tl).length = l.length + tl.length := List.length_append
  have hpre : ∀ (i : Nat) (p : Oper), l[i]? = some p → (l ++ tl)[i]? = some p := fun i p hp => by
    rw [List.getElem?_append_left (List.getElem?_eq_some_iff.1 hp).1]; exact hp
  have htl : ∀ (j : Nat) (p : Oper), tl[j]? = some p → (∀ e ∈ p.after, Region.binds .any e = true → e.on < l.length + j) ∧ (reachO (l ++ tl) (l.length + j) [l.length + j]).contains l.length = true := fun j p hp => by
    have h1 := htail j (List.mem_range.2 (List.getElem?_eq_some_iff.1 hp).1)
    rw [hp] at h1
    simp only [Bool.and_eq_true, Array.all_eq_true_iff_forall_mem] at h1
    refine ⟨fun e he hb => ?_, h1.2⟩
    have h5 := h1.1 e he
    rw [hb] at h5; simpa using h5
  have tf : ∀ (listed : Array Bool) (j : Nat), listed.size = (l ++ tl).length → j < (l ++ tl).length → (listed.getD j false = listed.getD j true) := by
    intro listed j hsz hj
    have : j < listed.size := by omega
    simp only [Array.getD, this, dif_pos]
  have ahead : ∀ (i : Nat) (p : Oper), (l ++ tl)[i]? = some p → ∀ e ∈ p.after, Region.binds .any e = true → e.on < i := by
    intro i p hp e he hb
    by_cases hi : i < l.length
    · rw [List.getElem?_append_left hi] at hp
      exact (regOk_at h.ok hp).2.1 e he hb
    · rw [List.getElem?_append_right (by omega)] at hp
      have := (htl _ p hp).1 e he hb; omega
  have none_ready : ∀ (listed : Array Bool), listed.size = (l ++ tl).length → Region.ready .any (l ++ tl).toArray listed = [] → ∀ i, i < (l ++ tl).length → listed.getD i true = true := by
    intro listed hsz hr i
    induction i using Nat.strongRecOn with
    | _ i ih =>
      intro hi
      cases hb : listed.getD i true with
      | true => rfl
      | false =>
        have ho : (l ++ tl)[i]? = some (l ++ tl)[i] := List.getElem?_eq_getElem hi
        have : i ∈ Region.ready .any (l ++ tl).toArray listed := mem_ready.2 ⟨hb, (l ++ tl)[i], by simp, fun e he hb => by
          have hlt := ahead i _ ho e he hb
          rw [tf listed _ hsz (by omega)]
          exact ih e.on hlt (by omega)⟩
        rw [hr] at this
        cases this
  intro fuel
  induction fuel with
  | zero =>
    intro listed a w hsz hcl hf hun hfr
    exfalso
    have hlt : l.length < listed.size := by omega
    have hn := List.eq_nil_of_length_eq_zero hf.symm
    rw [List.filter_eq_nil_iff] at hn
    have := hn listed[l.length] (by simp)
    have hx : listed[l.length] = false := by simpa [Array.getD, hlt] using hun l.length (Nat.le_refl _) (by omega)
    rw [hx] at this
    exact this rfl
  | succ fuel ih =>
    intro listed a w hsz hcl hf hun0 hfr
    by_cases hall : ∀ j, j < l.length → listed.getD j true = true
    · obtain ⟨γ, T, S, hr⟩ := hfr.done h hall
      refine hq γ T S w a listed (fuel + 1) hr hsz hall hun0 ?_
      have e1 : listed.toList.filter (fun b => !b) = (listed.toList.take l.length).filter (fun b => !b) ++ (listed.toList.drop l.length).filter (fun b => !b) := by rw [← List.filter_append, List.take_append_drop]
      have e2 : (listed.toList.drop l.length).filter (fun b => !b) = listed.toList.drop l.length := by
        rw [List.filter_eq_self]
        intro b hb
        obtain ⟨k, hk, rfl⟩ := List.mem_iff_getElem.1 hb
        rw [List.length_drop] at hk
        have hk2 : l.length + k < listed.size := by simp at hk; omega
        have h7 := hun0 (l.length + k) (by omega) (by omega)
        simp only [Array.getD, hk2, dif_pos] at h7
        rw [List.getElem_drop]
        simpa using h7
      rw [hf, e1, List.length_append, e2, List.length_drop]
      simp only [Array.length_toList]
      omega
    refine ⟨fun hr => (by have := none_ready listed hsz hr l.length (by omega); rw [hun0 _ (Nat.le_refl _) (by omega)] at this; cases this), fun i hi => ?_⟩
    obtain ⟨hun, p, hp, hdeps⟩ := mem_ready.1 hi
    have hp' : (l ++ tl)[i]? = some p := by simpa using hp
    have hlt : i < (l ++ tl).length := (List.getElem?_eq_some_iff.1 hp').1
    have hdeps' : ∀ e ∈ p.after, Region.binds .any e = true → listed.getD e.on true = true := fun e he hb => by
      rw [← tf listed _ hsz (by have := ahead i p hp' e he hb; omega)]; exact hdeps e he hb
    have hL : ∀ j, (listed.setIfInBounds i true).getD j true = true ↔ (j = i ∨ listed.getD j true = true) := by
      intro j
      by_cases hij : i = j
      · subst hij
        have : i < listed.size := by omega
        simp [this]
      · rw [getD_set_ne true hij]; simp [Ne.symm hij]
    have hcl' : ∀ j q, (l ++ tl)[j]? = some q → (listed.setIfInBounds i true).getD j true = true → ∀ e ∈ q.after, Region.binds .any e = true → (listed.setIfInBounds i true).getD e.on true = true := by
      intro j q hq hj e he hb
      refine (hL _).2 (.inr ?_)
      rcases (hL j).1 hj with rfl | hj
      · rw [hp'] at hq
        injection hq with hq
        subst hq
        exact hdeps' e he hb
      · exact hcl j q hq hj e he hb
    have hfuel : fuel = ((listed.setIfInBounds i true).toList.filter (fun b => !b)).length := by
      have hil : i < listed.size := by omega
      have hfi : listed[i] = false := by simpa [Array.getD, hil] using hun
      have hc : ∀ (l : List Bool) (k : Nat) (hkl : k < l.length), l[k] = false → ((l.set k true).filter (fun b => !b)).length + 1 = (l.filter (fun b => !b)).length := by
        intro l
        induction l with
        | nil => intro k hkl; simp at hkl
        | cons b l ih2 =>
          intro k hkl hb
          cases k with
          | zero => simp only [List.getElem_cons_zero] at hb; subst hb; simp
          | succ k =>
            simp only [List.getElem_cons_succ] at hb
            have := ih2 k (by simpa using hkl) hb
            cases b <;> simp at this ⊢ <;> omega
      have := hc listed.toList i (by simpa using hil) (by simpa using hfi)
      rw [Array.toList_setIfInBounds]
      omega
    have hin : i < l.length := by
      refine Classical.byContradiction fun hge => hall fun j hj => ?_
      have hti : tl[i - l.length]? = some p := by rw [List.getElem?_append_right (by omega)] at hp'; exact hp'
      have h6 := (htl _ p hti).2
      rw [show l.length + (i - l.length) = i by omega] at h6
      have h7 := reachO_sound hcl' i [i] (fun k hk => by obtain rfl := List.mem_singleton.1 hk; exact (hL _).2 (.inl rfl)) l.length (by simpa using h6)
      have hil : i = l.length := by
        rcases (hL _).1 h7 with e | e
        · exact e.symm
        · rw [hun0 _ (Nat.le_refl _) (by omega)] at e; cases e
      have h8 := reachO_sound hcl' l.length [l.length] (fun k hk => by obtain rfl := List.mem_singleton.1 hk; exact h7) j (by simpa using hreach j (List.mem_range.2 hj))
      exact ((hL j).1 h8).resolve_left (by omega)
    unfold wpOp
    simp only [hp]
    have ho' : l[i]? = some p := by rw [List.getElem?_append_left hin] at hp'; exact hp'
    have hlast' : ∀ j, l.length ≤ j → j < (l ++ tl).length → (listed.setIfInBounds i true).getD j true = false := fun j h1 h2 => by
      rw [getD_set_ne true (by omega)]; exact hun0 j h1 h2
    have go : ∀ a' w', InvL X l τ0 σB fr0 xs es (fun j => (listed.setIfInBounds i true).getD j true) a' w' → wpAny X.P .any (l ++ tl).toArray QQ fuel (listed.setIfInBounds i true) a' w' := fun a' w' hw' => ih _ _ w' (by simpa using hsz) hcl' hfuel hlast' hw'
    rcases hfr.step h ho' (L' := fun j => (listed.setIfInBounds i true).getD j true) hL hun hdeps' (fun j q hq hj => hcl j q (hpre j q hq) hj) with ⟨hw, hout⟩ | ⟨hw, hinv⟩
    · rw [if_pos hw]
      exact .inl (hout.wp fun v w' hv => go _ w' hv)
    · rw [if_neg (by rw [hw]; decide)]
      exact go _ w hinv
/-- the tail, from any world that bears the frame -/
def TailOk (X : Ctx) (l tl : List Oper) (fr : Fr) (σ : Obs) (QQ : Exit → Act → World → Prop) : Prop :=
  ∀ γ T S w a listed fuel, Rel X γ T S w fr σ a → listed.size = (l ++ tl).length → (∀ j, j < l.length → listed.getD j true = true) → (∀ j, l.length ≤ j → j < (l ++ tl).length → listed.getD j true = false) → tl.length ≤ fuel → wpAny X.P .any (l ++ tl).toArray QQ fuel listed a w
theorem W_pre {id : Nat} {QQ : Exit → Fr → Obs → Prop} (hm : X.P.follows .mixedOrders = true) (τ0 σB : Obs) (hne : 0 < tl.length) (hok : preOk l tl = true) (hs1 : ∀ p ∈ τ0, look σ p.1 = some p.2) (hs2 : Sub σB σ) (h : DSeq X (l ++ tl).toArray τ0 σB (fun fr σ => TailOk X l tl fr σ (LQ X QQ)) 0 [] [] l fr) : W X (.region id (l ++ tl).toArray true) fr σ QQ :=
  ⟨fun γ T S w a hr => by
    obtain ⟨xs, es, fs, Ks, Cs, h1, h2, h3, h4, h5⟩ := dseq_vals l 0 [] [] fr h
    simp only [Nat.zero_add] at h4 h5
    have hok2 := hok
    unfold preOk at hok2
    simp only [Bool.and_eq_true] at hok2
    have hF : Found X (l ++ tl).toArray l τ0 σB fr xs es fs Ks Cs := ⟨hok2.1.1.2, h1, h2, h3, h4⟩
    refine wp_region_any hm ?_
    have hr0 : Rel X γ T S { w with drawn := w.drawn + 1 } fr σ a := hr.grow ⟨rfl, rfl, rfl, Nat.le_refl _, fun _ _ => rfl⟩ (fun _ _ h => h) (fun _ _ h => .inl h)
    have hun : ∀ j, j < (l ++ tl).length → (Array.replicate (l ++ tl).length false).getD j true = false := fun j hj => by
      simp only [Array.getD, Array.size_replicate, hj, dif_pos]
      simp
    have hsz : (l ++ tl).toArray.size = (l ++ tl).length := by simp
    have hsum : (l ++ tl).length = l.length + tl.length := List.length_append
    rw [hsz]
    refine regionL_pre hne hF hok (QQ := LQ X QQ) h5 (l ++ tl).length (Array.replicate (l ++ tl).length false) a { w with drawn := w.drawn + 1 } (by simp) (fun i p hp hi => ?_) (by simp) (fun j _ hj => hun j hj) ⟨γ, T, S, fr, σ, hr0, fun t x hx => ?_, hs2, fun k ob hk => ?_⟩
    · have hlt : i < (l ++ tl).length := (List.getElem?_eq_some_iff.1 hp).1
      rw [hun i hlt] at hi; cases hi
    · unfold FL at hx
      cases hw : wrO l t with
      | none => rw [hw] at hx; exact hx
      | some j =>
        rw [hw] at hx
        obtain ⟨p, hp, _⟩ := wrO_dst hw
        have hlt := (List.getElem?_eq_some_iff.1 hp).1
        simp only [hun j (by omega), Bool.false_eq_true, if_false] at hx
        exact hx
    · rcases hk with hk | ⟨j, o, b, hj, ho, _⟩
      · rcases hk.2 with h6 | ⟨j, o, hj, ho, _⟩
        · exact hs1 _ h6
        · have hlt := (List.getElem?_eq_some_iff.1 ho).1
          simp only [hun j (by omega)] at hj; cases hj
      · have hlt := (List.getElem?_eq_some_iff.1 ho).1
        simp only [hun j (by omega)] at hj; cases hj⟩
end
end Go.Proofs.YtjhkehloipmjfaaGreat
