/- Rows of a function's own that are written in place: made, read, written, cut, copied; and how they become slices that may be appended to. -/
import Derived.Test.YtjhkehloipmjfaaGreatWF
import Derived.Laws.CopyRow
import Derived.Laws.MakeOwn
namespace Go.Proofs.YtjhkehloipmjfaaGreat
open Go.RowKit
section
variable {X : Ctx} {γ γ' : Nat → Nat} {T T' : Nat → Value} {S S' : Nat → Nat → Prop} {w w' : World} {fr fr' fr1 : Fr} {σ σ' σ1 : Obs} {a : Act} {o : Oper} {sz : Nat} {rows r1 r2 : List (List D)} {us u1 u2 : List Value}
structure FlatR (S : Nat → Nat → Prop) (w : World) (sz : Nat) (rows : List (List D)) (us : List Value) : Prop where
  len : us.length = rows.length * sz
  row : ∀ (i : Nat) (q : List D), rows[i]? = some q → q.length = sz ∧ ∀ (j : Nat) (x : D), q[j]? = some x → ∃ u, us[i * sz + j]? = some u ∧ RD S w x u
theorem FlatR.mono (hS : ∀ b o, S b o → S' b o) (hk : Kp S w w') (h : FlatR S w sz rows us) : FlatR S' w' sz rows us :=
  ⟨h.len, fun i q hq => ⟨(h.row i q hq).1, fun j x hx => let ⟨u, h1, h2⟩ := (h.row i q hq).2 j x hx; ⟨u, h1, h2.mono hS hk⟩⟩⟩
theorem FlatR.app (h : FlatR S w sz r1 u1) (k : FlatR S w sz r2 u2) : FlatR S w sz (r1 ++ r2) (u1 ++ u2) :=
  ⟨by rw [List.length_append, List.length_append, h.len, k.len, Nat.add_mul], fun i q hq => by
    by_cases hi : i < r1.length
    · rw [List.getElem?_append_left hi] at hq
      refine ⟨(h.row i q hq).1, fun j x hx => ?_⟩
      obtain ⟨u, g1, g2⟩ := (h.row i q hq).2 j x hx
      exact ⟨u, by rw [List.getElem?_append_left (List.getElem?_eq_some_iff.1 g1).1]; exact g1, g2⟩
    · rw [List.getElem?_append_right (by omega)] at hq
      refine ⟨(k.row _ q hq).1, fun j x hx => ?_⟩
      obtain ⟨u, g1, g2⟩ := (k.row _ q hq).2 j x hx
      have e : i * sz + j - u1.length = (i - r1.length) * sz + j := by
        rw [h.len, Nat.sub_mul]
        have : r1.length * sz ≤ i * sz := Nat.mul_le_mul_right _ (by omega)
        omega
      have hle : u1.length ≤ i * sz + j := by
        rw [h.len]
        have : r1.length * sz ≤ i * sz := Nat.mul_le_mul_right _ (by omega)
        omega
      exact ⟨u, by rw [List.getElem?_append_right hle, e]; exact g1, g2⟩⟩
theorem FlatR.take (h : FlatR S w sz rows us) (n : Nat) : FlatR S w sz (rows.take n) (us.take (n * sz)) :=
  ⟨by rw [List.length_take, List.length_take, h.len, Nat.mul_min_mul_right], fun i q hq => by
    rw [List.getElem?_take] at hq
    split at hq
    · rename_i hi
      refine ⟨(h.row i q hq).1, fun j x hx => ?_⟩
      obtain ⟨u, g1, g2⟩ := (h.row i q hq).2 j x hx
      have hj : j < sz := by have := (List.getElem?_eq_some_iff.1 hx).1; rwa [(h.row i q hq).1] at this
      have : (i + 1) * sz ≤ n * sz := Nat.mul_le_mul_right _ hi
      rw [Nat.add_mul] at this
      exact ⟨u, by rw [List.getElem?_take, if_pos (by omega)]; exact g1, g2⟩
    · cases hq⟩
theorem FlatR.drop (h : FlatR S w sz rows us) (n : Nat) : FlatR S w sz (rows.drop n) (us.drop (n * sz)) :=
  ⟨by rw [List.length_drop, List.length_drop, h.len, Nat.sub_mul], fun i q hq => by
    rw [List.getElem?_drop] at hq
    refine ⟨(h.row _ q hq).1, fun j x hx => ?_⟩
    obtain ⟨u, g1, g2⟩ := (h.row _ q hq).2 j x hx
    exact ⟨u, by rw [List.getElem?_drop, ← Nat.add_assoc, ← Nat.add_mul]; exact g1, g2⟩⟩
theorem FlatR.all1 (h : FlatR S w sz rows us) : ∀ u ∈ us, u.oneCell' = true := by
  intro u hu
  obtain ⟨k, hk, rfl⟩ := List.mem_iff_getElem.1 hu
  have hlt : k < rows.length * sz := by rw [← h.len]; exact hk
  have hsz : 0 < sz := by
    rcases Nat.eq_zero_or_pos sz with h0 | h0
    · subst h0; simp at hlt
    · exact h0
  have hi : k / sz < rows.length := (Nat.div_lt_iff_lt_mul hsz).2 hlt
  obtain ⟨g1, g2⟩ := h.row _ _ (List.getElem?_eq_getElem hi)
  obtain ⟨u, g3, g4⟩ := g2 (k % sz) _ (List.getElem?_eq_getElem (by rw [g1]; exact Nat.mod_lt _ hsz))
  rw [Nat.mul_comm, Nat.div_add_mod, List.getElem?_eq_getElem hk] at g3
  injection g3 with g3
  rw [g3]; exact g4.one
theorem FlatR.rep {q : List D} {vs : List Value} (h : RDL S w q vs) (hq : q.length = sz) : ∀ n : Nat, ∀ us : List Value, us.length = n * sz → (∀ i j, i < n → j < sz → us[i * sz + j]? = vs[j]?) → FlatR S w sz (List.replicate n q) us :=
  fun n us hl hu => ⟨by rw [hl, List.length_replicate], fun i p hp => by
    rw [List.getElem?_replicate] at hp
    split at hp
    · rename_i hi
      injection hp with hp; subst hp
      refine ⟨hq, fun j x hx => ?_⟩
      obtain ⟨u, g1, g2⟩ := h.2 j x hx
      exact ⟨u, by rw [hu i j hi (by rw [← hq]; exact (List.getElem?_eq_some_iff.1 hx).1)]; exact g1, g2⟩
    · cases hp⟩
theorem zfG {k : Nat} {e : TypeId} : RO X γ T S w k (.arr e sz rows) ↔ ∃ us : List Value, w.heap[γ k]? = some (.cells us.toArray e (0, 0)) ∧ FlatR S w sz rows us ∧ (∀ o, ¬ S (γ k) o) ∧ ¬ X.N (γ k) ∧ ∀ b, X.pin k = some b → γ k = b :=
  ⟨fun ⟨us, h1, h2, h3, h4, h5⟩ => ⟨us, h1, ⟨h2, h3⟩, h4, h5⟩, fun ⟨us, h1, ⟨h2, h3⟩, h4, h5⟩ => ⟨us, h1, h2, h3, h4, h5⟩⟩
theorem zfp (w : World) (g : Nat) (cs : Array Value) : OnlyAt w (w.setRow g cs) g := ⟨rfl, rfl, rfl, by simp, fun b hb => setRow_other w _ _ _ hb⟩
theorem ziU {k : Nat} {e : TypeId} {lo m : Nat} {news : List (List D)} {cs : List Value} (ho : RO X γ T S w k (.arr e sz rows)) (hc : FlatR S w sz news cs) (hm : news.length = m) (hle : lo + m ≤ rows.length) :
    ∃ cur : Array Value, w.heap[γ k]? = some (.cells cur e (0, 0)) ∧ lo * sz + cs.length ≤ cur.size ∧ RO X γ T S (w.setRow (γ k) (cur.toList.take (lo * sz) ++ cs ++ cur.toList.drop (lo * sz + cs.length)).toArray) k (.arr e sz (rows.take lo ++ news ++ rows.drop (lo + m))) := by
  obtain ⟨us, h1, h2, h3, h4⟩ := zfG.1 ho
  have hkp : Kp S w (w.setRow (γ k) (us.take (lo * sz) ++ cs ++ us.drop (lo * sz + cs.length)).toArray) := .row _ h3
  refine ⟨us.toArray, h1, ?_, zfG.2 ⟨us.take (lo * sz) ++ cs ++ us.drop (lo * sz + cs.length), ?_, ?_, h3, h4⟩⟩
  · rw [hc.len, hm, ← Nat.add_mul]
    have : (lo + m) * sz ≤ rows.length * sz := Nat.mul_le_mul_right _ hle
    simpa [h2.len] using this
  · exact setRow_heap w _ _ _ _ _ h1
  · rw [show us.toArray.toList = us from rfl]
    refine FlatR.mono (fun _ _ h => h) hkp ?_
    refine ((h2.take lo).app hc).app ?_
    rw [hc.len, hm, ← Nat.add_mul]
    exact h2.drop (lo + m)
variable {ops : Array Oper} {rest : List Oper} {Q : Fr → Obs → Prop} {d k n lo c m : Nat} {t el : TypeId} {i e : TyI} {xx yy ix : Operand}
theorem zkf {z : Array Value} {n i j sz : Nat} (hz : z.size = sz) (hi : i < n) (hj : j < sz) : (madeCells z (n * sz)).toList[i * sz + j]? = z.toList[j]? := by
  have hlt : i * sz + j < n * sz := by
    have : (i + 1) * sz ≤ n * sz := Nat.mul_le_mul_right _ hi
    rw [Nat.add_mul] at this; omega
  unfold madeCells
  rw [Array.toList_map, List.getElem?_map, Array.toList_range, List.getElem?_range hlt, Option.map_some, hz, Nat.add_comm, Nat.add_mul_mod_self_right, Nat.mod_eq_of_lt hj]
  have hj' : j < z.size := by rw [hz]; exact hj
  simp [hj']
theorem zmt (hT : Good X) {lx cx' : Operand} (hw : wantA ops o fr = some true) (hdst : o.dst = some d) (hd : Nat.blt d X.nt = true) (ho : o.op = .makeSlice t lx cx') (h1 : (ev fr lx).bind intV = some (n : Int)) (h2 : (ev fr cx').bind intV = some (n : Int)) (hi : X.Ty t = some i) (htag : i.tag = 2) (he : X.Ty i.elem = some e) (hb : n * e.bytes ≤ 281474976710656)
    (h : RL X ops rest ((d, .one (.win d 0 n n e.size)) :: stripF d fr) ((d, .arr i.elem e.size (List.replicate n (e.zero.map zc))) :: stripS d σ) Q) : RL X ops (o :: rest) fr σ Q :=
  ⟨fun γ T S w a K hr hk => wpList_step fun K' hK => by
    rw [if_pos (zau hr hw)]
    obtain ⟨lv, hl1, hl2⟩ := Option.bind_eq_some_iff.1 h1
    obtain ⟨cv, hc1, hc2⟩ := Option.bind_eq_some_iff.1 h2
    obtain ⟨kl, hkl⟩ := zbZ hl2 (zak hr hl1)
    obtain ⟨kc, hkc⟩ := zbZ hc2 (zak hr hc1)
    obtain ⟨inf, d0, g1, g2, g3, g4, g5, g6, g7, g8, g9, g10⟩ := (hT t i hi).get
    have hek := hT _ e he
    obtain ⟨inf', d', g1', g2', g3', g4', g5', _⟩ := hek.get
    rw [htag] at g10
    cases d0 with
    | slice el =>
      simp only [elemOfD] at g7
      subst g7
      have hbp : n ≤ 281474976710656 := Nat.le_trans (Nat.le_mul_of_pos_right n hek.bpos) hb
      have hrun := run_make (P := X.P) w t i.elem inf' _ g2 g1' g5' kl kc n n (by omega) (Int.le_refl _) (by rw [g4', Int.mul_comm, ← Int.natCast_mul]; omega) (by omega)
      have hzc : (if e.agg = true then Value.agg e.zero.toArray else e.zero.headD undef).cells.toList = e.zero := by
        by_cases hag : e.agg = true
        · rw [if_pos hag]; rfl
        · rw [if_neg hag]
          have hs1 := hek.sca (by simpa using hag)
          have hzl := hek.zlen
          rw [hs1] at hzl
          match hz : e.zero, hzl with
          | [z], _ =>
            have hone : z.oneCell' = true := by have := hek.z1; rw [hz] at this; simpa using this
            rw [List.headD_cons, cells1v hone]
      have hzs : (if e.agg = true then Value.agg e.zero.toArray else e.zero.headD undef).cells.size = e.size := by
        rw [← Array.length_toList, hzc, hek.zlen]
      rw [Int.toNat_natCast, g3'] at hrun
      have hr2 := hr.alloc d ((madeCells (if e.agg = true then Value.agg e.zero.toArray else e.zero.headD undef).cells (n * e.size)).toList) i.elem (.arr i.elem e.size (List.replicate n (e.zero.map zc))) (fun γ' _ hγ => zfG.2 ⟨_, by
        rw [hγ]
        exact heap_alloc_new w _, FlatR.rep (vs := e.zero) (RDL.zcs hek.z1) (by rw [List.length_map, hek.zlen]) n _ (by rw [Array.length_toList, size_madeCells]) (fun i' j hi' hj => by rw [zkf hzs hi' hj, hzc]), fun o => by rw [hγ]; exact (za2 hr _ (Nat.le_refl _)).1 o, by rw [hγ]; exact (za2 hr _ (Nat.le_refl _)).2, fun b hb => (by rw [X.low d (by simpa [Nat.blt_eq] using hd)] at hb; cases hb)⟩) (fun γ' b hb' => hb')
      have hexec : (execOp a.eval o).run X.P w = .ok (.value (.slice (some ⟨w.heap.size, 0, none⟩) n n)) (w.alloc (.cells (madeCells (if e.agg = true then Value.agg e.zero.toArray else e.zero.headD undef).cells (n * e.size)) i.elem)) := by
        simp only [execOp, ho, hkl, hkc, Sem.run_bind, hrun, Result.andThen_ok, Sem.run_pure]
      unfold Oper.wp
      rw [hexec]
      refine hK _ _ (h.out (setK γ d w.heap.size) T S _ _ K ?_ hk)
      have := hr2.put (dst := some d) (x := .one (.win d 0 n n e.size)) (v := .slice (some ⟨w.heap.size, 0, none⟩) n n) hd (.one (by simp only [RC, zaG, Nat.zero_mul]))
      rw [hdst]
      rw [zbz] at this
      simpa using this
    | _ => simp [tagOf] at g10⟩
theorem zk6 (hT : Good X) (hw : wantA ops o fr = some true) (hdst : o.dst = some d) (hd : Nat.blt d X.nt = true) (ho : o.op = .call { callee := .builtin .len, args := #[xx], argTypes := #[t] }) (h1 : ev fr xx = some (.one (.win k lo n c sz))) (hi : X.Ty t = some i) (htag : i.tag = 2)
    (h : RL X ops rest ((d, .one (.d (.v (.int .i64 (n : Int))))) :: fr) σ Q) : RL X ops (o :: rest) fr σ Q :=
  ⟨fun γ T S w a K hr hk => wpList_step fun K' hK => by
    rw [if_pos (zau hr hw)]
    obtain ⟨inf, d0, g1, g2, g3, g4, g5, g6, g7, g8, g9, g10⟩ := (hT t i hi).get
    rw [htag] at g10
    have hv := zak hr h1
    cases d0 with
    | slice el =>
      cases hv with
      | one hv =>
        have hev : a.eval xx = .slice (some ⟨γ k, lo * sz, none⟩) n c := hv
        have hexec : (execOp a.eval o).run X.P w = .ok (.value (.int .i64 n)) w := by simp [execOp, ho, resolve, invoke, builtin, hev, Builtin.len_, run_underlying g2, goInt]
        unfold Oper.wp
        rw [hexec]
        refine hK _ _ (h.out γ T S w _ K ?_ hk)
        rw [hdst]
        exact hr.put (dst := some d) hd (.one (.v _ rfl))
    | _ => simp [tagOf] at g10⟩
variable {τ0 σB : Obs} {KK : List Cr} {C : Cons} {QD : Fr → Obs → Prop} {j : Nat}
end
end Go.Proofs.YtjhkehloipmjfaaGreat
namespace Go.Proofs.YtjhkehloipmjfaaGreat
open Go.RowKit
section
variable {P : Program} {w : World}
theorem zjB {t : TypeId} {k : IntKind} (hu : P.underlying t = some (.int k)) (d : Nat) (a b : Int) : (Op.equalIn (d + 1) t (.int k a) (.int k b)).run P w = .ok (a == b) w := by
  unfold Op.equalIn
  simp [run_underlying hu]
theorem zl7 {t : TypeId} (hu : P.underlying t = some .string) (d : Nat) (a b : ByteArray) : (Op.equalIn (d + 1) t (.string a) (.string b)).run P w = .ok (a == b) w := by
  unfold Op.equalIn
  simp [run_underlying hu]
theorem zkc {t : TypeId} {k : FloatKind} (hu : P.underlying t = some (.float k)) (d : Nat) (a b : Nat) : (Op.equalIn (d + 1) t (.float k a) (.float k b)).run P w = .ok (Op.floatEq k a b) w := by
  unfold Op.equalIn
  simp [run_underlying hu]
theorem zju (s : ByteArray) : (s == ⟨#[]⟩) = emptyS s := by
  unfold emptyS
  rw [ByteArray.toList_eq]
  cases s with
  | mk d => cases d with
    | mk l =>
      show ((⟨l⟩ : Array UInt8) == #[]) = l.isEmpty
      cases l with
      | nil => rfl
      | cons b l => rfl
end
theorem zmH (k n : Int) (f : Nat) (s : ByteArray) (w : World) : (Op.equal 28 (.agg #[.int .i64 k, .int .i64 n, .float .f64 f, .string s]) (.agg #[.int .i64 0, .int .i64 0, .float .f64 0, .string ⟨#[]⟩])).run Tryz.prog w = .ok (zeroV ⟨k, n, f, s⟩) w := by
  have hs : Tryz.prog.stoodInHeld 28 = false := by kernel_rfl
  unfold Op.equal
  rw [show Op.maxDepth = 9998 + 2 from rfl]
  generalize 9998 = d
  unfold Op.equalIn
  simp only [Sem.run_bind, run_underlying Tryz.underlying28, Result.andThen_ok]
  simp [hs, part, zjB Tryz.underlying3, zjB Tryz.underlying2, zkc Tryz.underlying26, zl7 Tryz.underlying9, zeroV, zju]
  by_cases hk : k = 0 <;> by_cases hn : n = 0 <;> cases hf : Op.floatEq FloatKind.f64 f 0 <;> cases he : emptyS s <;> simp [hk, hn]
section
variable {X : Ctx} {fr fr1 : Fr} {σ σ1 : Obs} {o : Oper} {ops : Array Oper} {rest : List Oper} {Q : Fr → Obs → Prop} {d : Nat} {x : VV} {xx yy : Operand} {γ : Nat → Nat} {T : Nat → Value} {S : Nat → Nat → Prop} {w : World} {a : Act}
variable {τ0 σB : Obs} {K : List Cr} {C : Cons} {QD : Fr → Obs → Prop} {j : Nat}
structure ExtV (P : Program) (f : FuncId) (args : List VV) (x : VV) : Prop where
  out : ∀ (S : Nat → Nat → Prop) (w : World) (vs : List Value), ArgsR S w args vs → ∃ v, (callFunc f vs.toArray).run P w = .ok (.value v) w ∧ PV S w x v
theorem zl8 {f : FuncId} {xs : Array Operand} {ats : Array TypeId} {args : List VV} (hw : wantA ops o fr = some true) (hdst : o.dst = some d) (hd : Nat.blt d X.nt = true) (ho : o.op = .call { callee := .value (.func f), args := xs, argTypes := ats })
    (ha : argsL fr xs.toList = some args) (hc : ExtV X.P f args x) (h : RL X ops rest ((d, x) :: fr) σ Q) : RL X ops (o :: rest) fr σ Q :=
  ⟨fun γ T S w a K hr hk => wpList_step fun K' hK => by
    rw [if_pos (zau hr hw)]
    obtain ⟨v, h1, h2⟩ := hc.out S w _ (zbn hr ha)
    unfold Oper.wp
    rw [zbE ho, h1]
    refine hK _ _ (h.out γ T S w _ K ?_ hk)
    rw [hdst]
    exact hr.put (dst := some d) hd (h2 γ T)⟩
theorem zmS {f : FuncId} {xs : Array Operand} {ats : Array TypeId} {args : List VV} (hdst : o.dst = some d) (hd : Nat.blt d X.nt = true) (hw : wantA ops o (restr ops o fr) = some true) (ho : o.op = .call { callee := .value (.func f), args := xs, argTypes := ats })
    (ha : argsL (restr ops o fr) xs.toList = some args) (hc : ExtV X.P f args x) (hm : MenOk o K x) (h : DSeq X ops τ0 σB QD (j + 1) K C rest ((d, x) :: fr)) : DSeq X ops τ0 σB QD j K C (o :: rest) fr :=
  zbI hdst hd hm (.inr ⟨hw, fun γ T S w a hr => by
    obtain ⟨v, h1, h2⟩ := hc.out S w _ (zbn hr ha)
    exact .inl ⟨v, w, by rw [zbE ho]; exact h1, S, zbc S w, h2 γ T⟩⟩) h
theorem zlE {f : FuncId} {xs : Array Operand} {ats : Array TypeId} {args cs : List VV} (hdst : o.dst = some d) (hd : Nat.blt d X.nt = true) (hw : wantA ops o (restr ops o fr) = some true) (ho : o.op = .call { callee := .value xx, args := xs, argTypes := ats }) (hx : calleeV (restr ops o fr) xx = some (f, cs))
    (ha : argsL (restr ops o fr) xs.toList = some args) (hc : CallsV X.P f (args ++ cs) (.val x)) (hm : MenOk o K x) (h : DSeq X ops τ0 σB QD (j + 1) K C rest ((d, x) :: fr)) : DSeq X ops τ0 σB QD j K C (o :: rest) fr :=
  zbI hdst hd hm (.inr ⟨hw, fun γ T S w a hr => by
    obtain ⟨us, hu1, hu2⟩ := zdS hr hx
    exact .inr ⟨f, _, by rw [zcj ho hu1, hc.ent], (hc.out S w _ ((zbn hr ha).app hu2) hr.st.lt).mono fun e w' ⟨v, S', h1, hb, hS, hS', hv⟩ => ⟨v, h1, S', ⟨hb, hS, hS'⟩, hv γ T⟩⟩⟩) h
theorem zgC {t t2 : TypeId} {k n : Int} {f : Nat} {s : ByteArray} (hP : X.P = Tryz.prog) (ht : t = 28) (ho : o.op = .binOp .eql t xx yy t2) (hr : Rel X γ T S w fr σ a)
    (hx : ev fr xx = some (.dat [.v (.int .i64 k), .v (.int .i64 n), .v (.float .f64 f), .v (.string s)])) (hy : ev fr yy = some (.dat [.v (.int .i64 0), .v (.int .i64 0), .v (.float .f64 0), .v (.string ⟨#[]⟩)])) : (execOp a.eval o).run X.P w = .ok (.value (.bool (zeroV ⟨k, n, f, s⟩))) w := by
  have four : ∀ {x : Operand} {a1 a2 a3 a4 : Value}, ev fr x = some (.dat [.v a1, .v a2, .v a3, .v a4]) → a.eval x = .agg #[a1, a2, a3, a4] := fun {x a1 a2 a3 a4} hx => by
    have := zak hr hx
    generalize a.eval x = u at this
    cases this with
    | dat h =>
      rename_i us
      obtain ⟨hl, hv⟩ := h
      match us, hl with
      | [b1, b2, b3, b4], _ =>
        have g : ∀ (j : Nat) (y : Value), [D.v a1, .v a2, .v a3, .v a4][j]? = some (.v y) → [b1, b2, b3, b4][j]? = some y := fun j y hj => by
          obtain ⟨u, hu, hru⟩ := hv j _ hj
          cases hru with | v _ _ => exact hu
        have e1 := g 0 a1 rfl
        have e2 := g 1 a2 rfl
        have e3 := g 2 a3 rfl
        have e4 := g 3 a4 rfl
        simp only [List.getElem?_cons_zero, List.getElem?_cons_succ, Option.some.injEq] at e1 e2 e3 e4
        rw [e1, e2, e3, e4]
  have hg : Tryz.prog.eqGuardType Tryz.prog.depth 28 = false := by kernel_rfl
  subst ht
  rw [hP]
  simp only [execOp, ho, four hx, four hy, eqGuard, binOp, Sem.run_bind, zmH, Result.andThen_ok, Sem.run_pure]
  simp [hg]
theorem zmG {t t2 : TypeId} {k n : Int} {f : Nat} {s : ByteArray} (hP : X.P = Tryz.prog) (ht : t = 28) (hw : wantA ops o fr = some true) (hdst : o.dst = some d) (hd : Nat.blt d X.nt = true) (ho : o.op = .binOp .eql t xx yy t2)
    (hx : ev fr xx = some (.dat [.v (.int .i64 k), .v (.int .i64 n), .v (.float .f64 f), .v (.string s)])) (hy : ev fr yy = some (.dat [.v (.int .i64 0), .v (.int .i64 0), .v (.float .f64 0), .v (.string ⟨#[]⟩)])) (h : RL X ops rest ((d, vB (zeroV ⟨k, n, f, s⟩)) :: fr) σ Q) : RL X ops (o :: rest) fr σ Q :=
  ⟨fun γ T S w a K hr hk => wpList_step fun K' hK => by
    rw [if_pos (zau hr hw)]
    unfold Oper.wp
    rw [zgC hP ht ho hr hx hy]
    refine hK _ _ (h.out γ T S w _ K ?_ hk)
    rw [hdst]
    exact hr.put (dst := some d) hd (.one (.v _ rfl))⟩
theorem zmR {t t2 : TypeId} {k n : Int} {f : Nat} {s : ByteArray} (hP : X.P = Tryz.prog) (ht : t = 28) (hdst : o.dst = some d) (hd : Nat.blt d X.nt = true) (hw : wantA ops o (restr ops o fr) = some true) (ho : o.op = .binOp .eql t xx yy t2)
    (hx : ev (restr ops o fr) xx = some (.dat [.v (.int .i64 k), .v (.int .i64 n), .v (.float .f64 f), .v (.string s)])) (hy : ev (restr ops o fr) yy = some (.dat [.v (.int .i64 0), .v (.int .i64 0), .v (.float .f64 0), .v (.string ⟨#[]⟩)])) (hm : MenOk o K (vB (zeroV ⟨k, n, f, s⟩))) (h : DSeq X ops τ0 σB QD (j + 1) K C rest ((d, vB (zeroV ⟨k, n, f, s⟩)) :: fr)) : DSeq X ops τ0 σB QD j K C (o :: rest) fr :=
  zbI hdst hd hm (.inr ⟨hw, fun _ _ S w _ hr => .inl ⟨_, w, zgC hP ht ho hr hx hy, S, zbc S w, .one (.v _ rfl)⟩⟩) h
end
section
variable {w0 : W0} {S0 : Nat → Nat → Prop} {nt : Nat} {fr fr1 : Fr} {σ σ1 : Obs} {o : Oper} {ops : Array Oper} {rest : List Oper} {Q : Fr → Obs → Prop} {d k n lo c m : Nat} {x : VV} {xx yy ix p : Operand} {t ty el : TypeId} {i e : TyI} {cs ds : List D} {rows news rows' : List (List D)} {ps : Array (Nat × Operand)} {sz cap : Nat}
variable {τ0 σB : Obs} {K : List Cr} {C : Cons} {QD : Fr → Obs → Prop} {j : Nat}
theorem uE {f : FuncId} {xs : Array Operand} {ats : Array TypeId} {args : List VV} (hc : ExtV Tryz.prog f args x) (h : RL (cx nt w0 S0) ops rest ((d, x) :: fr) σ Q) (ho : o.op = .call { callee := .value (.func f), args := xs, argTypes := ats } := by rfl) (hw : wantA ops o fr = some true := by rfl) (hdst : o.dst = some d := by rfl) (hd : Nat.blt d nt = true := by rfl)
    (ha : argsL fr xs.toList = some args := by rfl) : RL (cx nt w0 S0) ops (o :: rest) fr σ Q := zl8 (X := cx nt w0 S0) hw hdst hd ho ha hc h
theorem mE {f : FuncId} {xs : Array Operand} {ats : Array TypeId} {args : List VV} (hc : ExtV Tryz.prog f args x) (h : DSeq (cx nt w0 S0) ops τ0 σB QD (j + 1) K C rest ((d, x) :: fr)) (ho : o.op = .call { callee := .value (.func f), args := xs, argTypes := ats } := by rfl) (hw : wantA ops o (restr ops o fr) = some true := by rfl) (hdst : o.dst = some d := by rfl) (hd : Nat.blt d nt = true := by rfl)
    (ha : argsL (restr ops o fr) xs.toList = some args := by rfl) (hm : MenOk o K x := by (repeat (first | exact zaO _ _ | refine zaK (by first | exact Or.inl rfl | exact Or.inr rfl) ?_))) : DSeq (cx nt w0 S0) ops τ0 σB QD j K C (o :: rest) fr := zmS (X := cx nt w0 S0) hdst hd hw ho ha hc hm h
theorem uDc {f : FuncId} {xs : Array Operand} {ats : Array TypeId} {args cs all : List VV} (hc : CallsV Tryz.prog f all (.val x)) (h : RL (cx nt w0 S0) ops rest ((d, x) :: fr) σ Q) (ho : o.op = .call { callee := .value xx, args := xs, argTypes := ats } := by rfl) (hx : calleeV fr xx = some (f, cs) := by rfl) (hw : wantA ops o fr = some true := by rfl) (hdst : o.dst = some d := by rfl) (hd : Nat.blt d nt = true := by rfl)
    (ha : argsL fr xs.toList = some args := by rfl) (hall : args ++ cs = all := by rfl) : RL (cx nt w0 S0) ops (o :: rest) fr σ Q := zkS (X := cx nt w0 S0) ⟨x, fr, σ⟩ hw (by rw [hdst]; exact hd) ho hx ha (by rw [hall]; exact hc) rfl (by rw [hdst]; exact h)
theorem mDc {f : FuncId} {xs : Array Operand} {ats : Array TypeId} {args cs all : List VV} (hc : CallsV Tryz.prog f all (.val x)) (h : DSeq (cx nt w0 S0) ops τ0 σB QD (j + 1) K C rest ((d, x) :: fr)) (ho : o.op = .call { callee := .value xx, args := xs, argTypes := ats } := by rfl) (hx : calleeV (restr ops o fr) xx = some (f, cs) := by rfl) (hw : wantA ops o (restr ops o fr) = some true := by rfl) (hdst : o.dst = some d := by rfl) (hd : Nat.blt d nt = true := by rfl)
    (ha : argsL (restr ops o fr) xs.toList = some args := by rfl) (hall : args ++ cs = all := by rfl) (hm : MenOk o K x := by (repeat (first | exact zaO _ _ | refine zaK (by first | exact Or.inl rfl | exact Or.inr rfl) ?_))) : DSeq (cx nt w0 S0) ops τ0 σB QD j K C (o :: rest) fr := zlE (X := cx nt w0 S0) hdst hd hw ho hx ha (by rw [hall]; exact hc) hm h
theorem uEq {t2 : TypeId} {k n : Int} {f : Nat} {s : ByteArray} (b : Bool) (h : RL (cx nt w0 S0) ops rest ((d, vB b) :: fr) σ Q) (ho : o.op = .binOp .eql t xx yy t2 := by rfl) (ht : t = 28 := by rfl) (hdst : o.dst = some d := by rfl) (hd : Nat.blt d nt = true := by rfl) (hw : wantA ops o fr = some true := by rfl)
    (hx : ev fr xx = some (.dat [.v (.int .i64 k), .v (.int .i64 n), .v (.float .f64 f), .v (.string s)]) := by rfl) (hy : ev fr yy = some (.dat [.v (.int .i64 0), .v (.int .i64 0), .v (.float .f64 0), .v (.string ⟨#[]⟩)]) := by rfl) (hb : zeroV ⟨k, n, f, s⟩ = b := by assumption) : RL (cx nt w0 S0) ops (o :: rest) fr σ Q :=
  zmG (X := cx nt w0 S0) rfl ht hw hdst hd ho hx hy (hb ▸ h)
theorem mEq {t2 : TypeId} {k n : Int} {f : Nat} {s : ByteArray} (b : Bool) (h : DSeq (cx nt w0 S0) ops τ0 σB QD (j + 1) K C rest ((d, vB b) :: fr)) (ho : o.op = .binOp .eql t xx yy t2 := by rfl) (ht : t = 28 := by rfl) (hdst : o.dst = some d := by rfl) (hd : Nat.blt d nt = true := by rfl) (hw : wantA ops o (restr ops o fr) = some true := by rfl)
    (hx : ev (restr ops o fr) xx = some (.dat [.v (.int .i64 k), .v (.int .i64 n), .v (.float .f64 f), .v (.string s)]) := by rfl) (hy : ev (restr ops o fr) yy = some (.dat [.v (.int .i64 0), .v (.int .i64 0), .v (.float .f64 0), .v (.string ⟨#[]⟩)]) := by rfl) (hb : zeroV ⟨k, n, f, s⟩ = b := by assumption) (hm : MenOk o K (vB b) := by (repeat (first | exact zaO _ _ | refine zaK (by first | exact Or.inl rfl | exact Or.inr rfl) ?_))) : DSeq (cx nt w0 S0) ops τ0 σB QD j K C (o :: rest) fr :=
  zmR (X := cx nt w0 S0) rfl ht hdst hd hw ho hx hy (by rw [hb]; exact hm) (hb ▸ h)
theorem uFz (L : List (Nat × List D)) (h : RL (cx nt w0 S0) ops rest fr1 σ1 Q) (hk : fzOk σ L := by (repeat (first | exact zmh | refine zlT (by rfl) (by rfl) ?_))) (hf : fzF L fr = fr1 := by rfl) (hs : junkL L σ = σ1 := by rfl) : RL (cx nt w0 S0) ops rest fr σ Q :=
  zmU (X := cx nt w0 S0) L hk (by rw [hf, hs]; exact h)
theorem uMk {lx cx' : Operand} {z : Int} {zs : List D} (n : Nat) (h : RL (cx nt w0 S0) ops rest ((d, .one (.win d 0 n n sz)) :: fr1) ((d, .arr el sz (List.replicate n zs)) :: σ1) Q) (ho : o.op = .makeSlice t lx cx' := by rfl) (hw : wantA ops o fr = some true := by rfl) (hdst : o.dst = some d := by rfl) (hd : Nat.blt d nt = true := by rfl)
    (h1 : (ev fr lx).bind intV = some z := by rfl) (h2 : (ev fr cx').bind intV = some z := by rfl) (hz : z = (n : Int) := by first | rfl | assumption | omega) (hi : Ty t = some i := by rfl) (htag : i.tag = 2 := by rfl) (hel : i.elem = el := by rfl) (he : Ty el = some e := by rfl) (hsz : e.size = sz := by rfl) (hzs : e.zero.map zc = zs := by first | ((try simp only [zc, isNil, List.map_cons, List.map_nil, Bool.false_eq_true, if_false, if_true, reduceIte]) <;> rfl) | rfl) (hb : n * e.bytes ≤ 281474976710656 := by first | decide | (simp only [List.length_map, List.length_append, List.length_take, List.length_drop, List.length_cons, List.length_nil]; omega))
    (hf : stripF d fr = fr1 := by first | ((try simp only [zat, zaB, zav, zaz, stripV, plainV, List.all_cons, List.all_nil, Bool.and_self, stripC, stripO, stripA, zay, zar, zaE, zaA, Nat.reduceEqDiff, if_false, if_true, reduceIte, List.contains_nil, List.contains_cons, Nat.reduceBEq, Bool.or_false, Bool.false_eq_true, Bool.or_true]) <;> rfl) | rfl) (hs : stripS d σ = σ1 := by first | ((try simp only [zat, zaB, zav, zaz, stripV, plainV, List.all_cons, List.all_nil, Bool.and_self, stripC, stripO, stripA, zay, zar, zaE, zaA, Nat.reduceEqDiff, if_false, if_true, reduceIte, List.contains_nil, List.contains_cons, Nat.reduceBEq, Bool.or_false, Bool.false_eq_true, Bool.or_true]) <;> rfl) | rfl) : RL (cx nt w0 S0) ops (o :: rest) fr σ Q := by
  subst hel; subst hsz; subst hzs
  exact zmt (X := cx nt w0 S0) zag hw hdst hd ho (by rw [h1, hz]) (by rw [h2, hz]) hi htag he hb (hf ▸ hs ▸ h)
theorem uWl (h : RL (cx nt w0 S0) ops rest ((d, vI (n : Int)) :: fr) σ Q) (ho : o.op = .call { callee := .builtin .len, args := #[xx], argTypes := #[t] } := by rfl) (hw : wantA ops o fr = some true := by rfl) (hdst : o.dst = some d := by rfl) (hd : Nat.blt d nt = true := by rfl) (h1 : ev fr xx = some (.one (.win k lo n c sz)) := by rfl) (hi : Ty t = some i := by rfl) (htag : i.tag = 2 := by rfl) : RL (cx nt w0 S0) ops (o :: rest) fr σ Q :=
  zk6 (X := cx nt w0 S0) zag hw hdst hd ho h1 hi htag h
end
end Go.Proofs.YtjhkehloipmjfaaGreat
