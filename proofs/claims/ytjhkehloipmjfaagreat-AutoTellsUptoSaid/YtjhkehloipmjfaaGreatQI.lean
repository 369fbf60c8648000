/- Queries as cells. Walks: do the bodies of all quantifiers have a length? -/
import Derived.Test.YtjhkehloipmjfaaGreatWM
import Derived.Test.YtjhkehloipmjfaaGreatVO
import Derived.Test.YtjhkehloipmjfaaGreatVG
import Derived.Test.YtjhkehloipmjfaaGreatRows
import Derived.Test.YtjhkehloipmjfaaGreatG1
import Derived.Test.YtjhkehloipmjfaaGreatMF
import Derived.Test.YtjhkehloipmjfaaGreatMC
import Derived.Test.YtjhkehloipmjfaaGreatWO
set_option maxRecDepth 100000
namespace Go.Proofs.YtjhkehloipmjfaaGreat
open Go.RowKit
structure Qy where
  mode : Int
  sel : Int
  k : Int
  pat : Pt
def encQ (q : Qy) : List D := .v (.int .i64 q.mode) :: .v (.int .i64 q.sel) :: .v (.int .i64 q.k) :: encP q.pat
theorem zbr (q : Qy) : (encQ q).length = 23 := by unfold encQ; simp [zaC]
theorem zdI {i : TyI} (q : Qy) (ha : i.agg = true := by rfl) (hs : i.size = 20 := by rfl) : loadA i (encQ q) 3 = some (.dat (encP q.pat)) := by
  unfold loadA encQ
  rw [if_pos ha, if_neg (fun h => by cases h.1), if_pos (by simp [zaC, hs]), hs]
  show some (VV.dat ((encP q.pat).take 20)) = _
  rw [List.take_of_length_le (by rw [zaC]; exact Nat.le_refl _)]
end Go.Proofs.YtjhkehloipmjfaaGreat
namespace Go.Proofs.YtjhkehloipmjfaaGreat
open Go.RowKit
section
variable {X : Ctx} {γ : Nat → Nat} {T : Nat → Value} {S : Nat → Nat → Prop} {w : World} {fr : Fr} {σ : Obs} {a : Act} {o : Oper} {ops : Array Oper} {rest : List Oper} {Q : Fr → Obs → Prop} {w0 : W0} {S0 : Nat → Nat → Prop} {nt d : Nat} {xx : Operand}
theorem ziT {x y : Value} (hr : Rel X γ T S w fr σ a) (hx : ev fr xx = some (.dat [.v x, .v y])) : a.eval xx = .agg #[x, y] := by
  have := zak hr hx
  generalize a.eval xx = u at this
  cases this with
  | dat h =>
    rename_i us
    obtain ⟨hl, hv⟩ := h
    match us, hl with
    | [b1, b2], _ =>
      obtain ⟨u, hu, hru⟩ := hv 0 (.v x) rfl
      obtain ⟨u', hu', hru'⟩ := hv 1 (.v y) rfl
      simp only [List.getElem?_cons_zero, List.getElem?_cons_succ, Option.some.injEq] at hu hu'
      subst hu; subst hu'
      cases hru; cases hru'; rfl
theorem zmg {x y : Value} {f : Nat} (hP : X.P = Tryz.prog) (hw : wantA ops o fr = some true) (hdst : o.dst = some d) (hd : Nat.blt d X.nt = true) (ho : o.op = .field 127 xx f) (hx : ev fr xx = some (.dat [.v x, .v y])) (hx1 : x.oneCell' = true) (hy1 : y.oneCell' = true) (hf : f = 0 ∨ f = 1)
    (h : RL X ops rest ((d, .one (.d (.v (if f = 0 then x else y)))) :: fr) σ Q) : RL X ops (o :: rest) fr σ Q :=
  ⟨fun γ T S w a K hr hk => wpList_step fun K' hK => by
    rw [if_pos (zau hr hw)]
    have hev := ziT hr hx
    have hexec : (execOp a.eval o).run X.P w = .ok (.value (if f = 0 then x else y)) w := by
      rw [hP]
      rcases hf with rfl | rfl
      · simp [execOp, ho, hev, Instr.field, run_underlying Tryz.underlying127, asAgg, part]
      · simp [execOp, ho, hev, Instr.field, run_underlying Tryz.underlying127, asAgg, part]
    unfold Oper.wp
    rw [hexec]
    refine hK _ _ (h.out γ T S w _ K ?_ hk)
    rw [hdst]
    refine hr.put (dst := some d) hd (.one (.v _ ?_))
    split
    · exact hx1
    · exact hy1⟩
theorem uFld {x y : Value} {f : Nat} (h : RL (cx nt w0 S0) ops rest ((d, .one (.d (.v (if f = 0 then x else y)))) :: fr) σ Q) (ho : o.op = .field 127 xx f := by rfl) (hf : f = 0 ∨ f = 1 := by first | exact .inl rfl | exact .inr rfl) (hw : wantA ops o fr = some true := by rfl) (hdst : o.dst = some d := by rfl) (hd : Nat.blt d nt = true := by rfl) (hx : ev fr xx = some (.dat [.v x, .v y]) := by rfl) (hx1 : x.oneCell' = true := by rfl) (hy1 : y.oneCell' = true := by rfl) : RL (cx nt w0 S0) ops (o :: rest) fr σ Q :=
  zmg (X := cx nt w0 S0) rfl hw hdst hd ho hx hx1 hy1 hf h
end
def endB (p : Pt) : Bool := p.kind != 5 || decide (0 < (lenP (p.kids.headD zPt)).low)
def endsP : Pt → Bool := foldP fun p ks => endB p && ks.all id
theorem zgI (p : Pt) : endsP p = (endB p && p.kids.all endsP) := by unfold endsP; rw [za8, List.all_map]; rfl
theorem zmv (p : Pt) (h : rightP p = true) : CallsV Tryz.prog 89 [.dat (encP p)] (.val (vB (endB p))) := by
  have hlm : (p.kids.map encP).length = p.kids.length := List.length_map _
  have hdef : endB p = (p.kind != 5 || decide (0 < (lenP (p.kids.headD zPt)).low)) := rfl
  (refine zaj (Ty := Ty) zag Tryz.func89 rfl rfl rfl fun w0 S0 => ?_; simp only [argsF, List.zipIdx_cons, List.zipIdx_nil, List.map_cons, List.map_nil, Nat.zero_add])
  by_cases k5 : p.kind = 5
  · obtain ⟨⟨k, hk, hkr⟩, _⟩ := za6 h k5
    have hQ := zf4 k hkr
    have hk0 : (p.kids.map encP)[Int.toNat 0]? = some (encP k) := by rw [hk]; rfl
    rw [hk] at hdef
    have hdef : endB p = decide (0 < (lenP k).low) := by rw [hdef]; simp [k5]
    by_cases hp : 0 < (lenP k).low
    · repeat (first | refine zac ?_ | refine zaa ?_ | ((first | refine zab ?_ ); (first | change W _ _ _ _ _ )) | (refine isRL ?_; first | refine uMv ?_ | refine uAs ?_ | (refine isBin ?_; first | refine uBb false ?_ ) | (refine isLd ?_; first | refine uLp ?_ | refine uL1 ?_ ) | (refine isCl ?_; first | refine uC (hQ) ?_ ) | (refine isFa ?_; first | refine uP ?_) | refine uX ?_ | refine uBx ?_ ))
      refine uFld ?_
      repeat (first | ((first | refine zab ?_ | refine zae ?_); (first | change W _ _ _ _ _ | change EndQ _ _ _ _ _ _ )) | (refine isRL ?_; first | refine uAs ?_ | (refine isBin ?_; first | refine uBb true ?_ ) | refine uP ?_ ))
      exact zah (by rfl) (zas (by rw [hdef]; simp [hp]))
    · repeat (first | refine zac ?_ | refine zaa ?_ | ((first | refine zab ?_ ); (first | change W _ _ _ _ _ )) | (refine isRL ?_; first | refine uMv ?_ | refine uAs ?_ | (refine isBin ?_; first | refine uBb false ?_ ) | (refine isLd ?_; first | refine uLp ?_ | refine uL1 ?_ ) | (refine isCl ?_; first | refine uC (hQ) ?_ ) | (refine isFa ?_; first | refine uP ?_) | refine uX ?_ | refine uBx ?_ ))
      refine uFld ?_
      repeat (first | ((first | refine zab ?_ | refine zae ?_); (first | change W _ _ _ _ _ | change EndQ _ _ _ _ _ _ )) | (refine isRL ?_; first | refine uAs ?_ | (refine isBin ?_; first | refine uBb false ?_ ) | refine uP ?_ ))
      exact zah (by rfl) (zas (by rw [hdef]; simp [hp]))
  · repeat (first | refine zac ?_ | refine zaa ?_ | ((first | refine zab ?_ | refine zae ?_); (first | change W _ _ _ _ _ | change EndQ _ _ _ _ _ _ )) | (refine isRL ?_; first | refine uMv ?_ | refine uAs ?_ | refine uO ?_ | (refine isBin ?_; first | refine uBb true ?_ ) | (refine isLd ?_; first | refine uL1 ?_ ) | (refine isFa ?_; first | refine uP ?_) | refine uP ?_ | refine uBx ?_ ))
    exact zah (by rfl) (zas (by rw [hdef]; simp [k5]))
theorem zle : ∀ p : Pt, rightP p = true → CallsV Tryz.prog 86 [.dat (encP p), .one (.d (.fn 89 []))] (.val (vB (endsP p))) := Pt.ind fun p ih h => by
  have hr := za3 h
  have hC1 : ∀ k ∈ p.kids, CallsV Tryz.prog 109 (.dat (encP k) :: [[D.fn 89 []]].map fun q => .one (.d (.pi q))) (.val (vB (!endsP k))) := fun k hk => by
    have hW := ih k hk (hr k hk)
    rw [List.map_singleton]
    (refine zaj (Ty := Ty) zag Tryz.func109 rfl rfl rfl fun w0 S0 => ?_; simp only [argsF, List.zipIdx_cons, List.zipIdx_nil, List.map_cons, List.map_nil, Nat.zero_add])
    cases hb : endsP k
    all_goals
      rw [hb] at hW
      repeat (first | refine zac ?_ | refine zaa ?_ | ((first | refine zab ?_ | refine zae ?_); (first | change W _ _ _ _ _ | change EndQ _ _ _ _ _ _ )) | (refine isRL ?_; first | refine uAs ?_ | (refine isLd ?_; first | refine uLb ?_ | refine uL2 ?_ ) | (refine isCl ?_; first | refine uC (hW) ?_ ) | refine uBu true ?_ | refine uBu false ?_ | refine uBx ?_ ))
      exact zah (by rfl) rfl
  have hC := zeL p.kids 109 [[D.fn 89 []]] (fun k => !endsP k) hC1
  rw [zfL endsP] at hC
  have hE := zmv p h
  have hdef := zgI p
  (refine zaj (Ty := Ty) zag Tryz.func86 rfl rfl rfl fun w0 S0 => ?_; simp only [argsF, List.zipIdx_cons, List.zipIdx_nil, List.map_cons, List.map_nil, Nat.zero_add])
  cases hb : endB p with
  | false =>
    rw [hb] at hE
    repeat (first | refine zac ?_ | refine zaa ?_ | ((first | refine zab ?_ | refine zae ?_); (first | change W _ _ _ _ _ | change EndQ _ _ _ _ _ _ )) | (refine isRL ?_; first | refine uMv ?_ | refine uAs ?_ | refine uO ?_ | (refine isLd ?_; first | refine uLb ?_ | refine uP ?_) | (refine isCl ?_; first | refine uDc (hE) ?_ ) | refine uP ?_ | refine uBx ?_ | refine uN ?_))
    exact zah (by rfl) (zas (by rw [hdef, hb]; rfl))
  | true =>
    rw [hb] at hE
    rw [hb, Bool.true_and] at hdef
    repeat (first | refine zac ?_ | refine zaa ?_ | ((first | refine zab ?_ ); (first | change W _ _ _ _ _ )) | (refine isRL ?_; first | refine uMv ?_ | refine uAs ?_ | (refine isLd ?_; first | refine uLb ?_ | refine uL1 ?_ | refine uP ?_) | (refine isCl ?_; first | refine uDc (hE) ?_ ) | (refine isFa ?_; first | refine uP ?_) | refine uP ?_ | refine uBx ?_ | refine uN ?_))
    refine uFz [(3, [.fn 89 []])] ?_
    cases ha : p.kids.all endsP
    all_goals
      rw [ha] at hC
      repeat (first | ((first | refine zab ?_ | refine zae ?_); (first | change W _ _ _ _ _ | change EndQ _ _ _ _ _ _ )) | (refine isRL ?_; first | refine uAs ?_ | (refine isCl ?_; first | refine uC (hC) ?_ ) | refine uBu true ?_ | refine uBu false ?_ | refine uP ?_ ))
      exact zah (by rfl) (zas (by rw [hdef, ha]))
theorem zmy (p : Pt) (h : rightP p = true) : CallsV Tryz.prog 62 [.dat (encP p)] (.val (vB (endsP p))) := by
  have hW := zle p h
  (refine zaj (Ty := Ty) zag Tryz.func62 rfl rfl rfl fun w0 S0 => ?_; simp only [argsF, List.zipIdx_cons, List.zipIdx_nil, List.map_cons, List.map_nil, Nat.zero_add])
  repeat (first | refine zac ?_ | refine zaa ?_ | ((first | refine zab ?_ | refine zae ?_); (first | change W _ _ _ _ _ | change EndQ _ _ _ _ _ _ )) | (refine isRL ?_; first | refine uAs ?_ | (refine isLd ?_; first | refine uLb ?_ ) | (refine isCl ?_; first | refine uC (hW) ?_ ) | refine uBx ?_ ))
  exact zah (by rfl) rfl
end Go.Proofs.YtjhkehloipmjfaaGreat
namespace Go.Proofs.YtjhkehloipmjfaaGreat
open Go.RowKit Go.ChangeShapes Go.WideShapes Go.Deep
mutual
def bulkD : D → Nat
  | .v (.string s) => s.size + 1
  | .v _ => 1
  | .sl rows => bulkRR rows + 1
  | .pi _ => 1
  | .fn _ _ => 1
def bulkR : List D → Nat
  | [] => 0
  | d :: l => bulkD d + bulkR l
def bulkRR : List (List D) → Nat
  | [] => 0
  | q :: l => bulkR q + bulkRR l
end
theorem zfZ : ∀ (a b : List D), bulkR (a ++ b) = bulkR a + bulkR b
  | [], b => by simp [bulkR]
  | d :: a, b => by simp only [List.cons_append, bulkR, zfZ a b]; omega
theorem zmk {H : Type} (d : DataW H) : 1 ≤ Rows.uptoBulk d := by
  cases d with
  | lit l => cases l <;> simp [Rows.uptoBulk]
  | nil => simp [Rows.uptoBulk]
  | ptr d => simp [Rows.uptoBulk]
  | slice elems spare => simp [Rows.uptoBulk]
  | agg parts => simp [Rows.uptoBulk]
  | iface t d => simp [Rows.uptoBulk]
  | map entries => simp [Rows.uptoBulk]
  | held h => simp [Rows.uptoBulk]
theorem zh4 {H : Type} : ∀ (rows : List (List D)) (l : List (DataW H)), rows.length = l.length → (∀ (i : Nat) (q : List D) (d : DataW H), rows[i]? = some q → l[i]? = some d → bulkR q ≤ Rows.uptoBulk d) → bulkRR rows ≤ Rows.uptoBulkAll l
  | [], l, _, _ => by simp [bulkRR]
  | q :: rows, [], h, _ => by simp at h
  | q :: rows, d :: l, h, hk => by
    have h1 := hk 0 q d rfl rfl
    have h2 := zh4 rows l (by simpa using h) fun i q d hq hd => hk (i + 1) q d (by simpa using hq) (by simpa using hd)
    simp only [bulkRR, Rows.uptoBulkAll]; omega
section
variable {H : Type} {enc : TypeId × Value → H} {P : Program} {w : World} {base : Nat} {spare : Nat → Bool} {held : Bool}
theorem zf5 (ds : List D) : ∀ (fs : List Field) (a m : Nat) (l : List (DataW H)), contig P fs a = some m → fs.length = l.length →
    (∀ (i : Nat) (f : Field) (d : DataW H), fs[i]? = some f → l[i]? = some d → bulkR ((ds.drop f.offset).take (P.cellsOf f.type)) ≤ Rows.uptoBulk d) → a ≤ m ∧ bulkR ((ds.drop a).take (m - a)) ≤ Rows.uptoBulkAll l
  | [], a, m, l, h, _, _ => by
    simp only [contig, Option.some.injEq] at h
    subst h
    exact ⟨Nat.le_refl _, by simp [bulkR]⟩
  | f :: fs, a, m, [], h, hl, _ => by simp at hl
  | f :: fs, a, m, d :: l, h, hl, hk => by
    simp only [contig] at h
    split at h
    · rename_i hc
      obtain ⟨h1, h2⟩ := zf5 ds fs _ m l h (by simpa using hl) fun i f d hf hd => hk (i + 1) f d (by simpa using hf) (by simpa using hd)
      have h0 := hk 0 f d rfl rfl
      rw [hc.1] at h0
      refine ⟨by omega, ?_⟩
      have e : (ds.drop a).take (m - a) = (ds.drop a).take (P.cellsOf f.type) ++ (ds.drop (a + P.cellsOf f.type)).take (m - (a + P.cellsOf f.type)) := by
        rw [← List.drop_drop, ← List.take_add]
        congr 1
        omega
      rw [e, zfZ]
      simp only [Rows.uptoBulkAll]
      omega
    · cases h
theorem ze1 (L : List TypeId) (hL : L.all (simpleT P L) = true) : ∀ (fuel : Nat) (t : TypeId) (cs : List Value) (x : DataW H × List MemPlace) (ds : List D), L.contains t = true → DataW.trod enc P w base spare held fuel t cs = some x → RDL (SW_ w) w ds cs → Sh P fuel t ds → bulkR ds ≤ Rows.uptoBulk x.1 := by
  intro fuel
  induction fuel using Nat.strongRecOn with
  | _ fuel ih =>
  intro t cs x ds ht h hr hsh
  have hs := List.all_eq_true.1 hL t (by simpa using ht)
  obtain ⟨n0, hn0⟩ : ∃ n, fuel = n + 1 := by
    cases fuel with
    | zero => simp [DataW.trod] at h
    | succ n => exact ⟨n, rfl⟩
  rw [hn0] at hsh
  unfold Sh at hsh
  unfold simpleT at hs
  have hone := zmk x.1
  split at hs
  · rename_i k hu
    rw [hu] at hsh
    obtain ⟨m, _, rfl⟩ := hsh
    simpa [bulkR, bulkD] using hone
  · rename_i hu
    rw [hu] at hsh
    obtain ⟨b, rfl⟩ := hsh
    simpa [bulkR, bulkD] using hone
  · rename_i hu
    rw [hu] at hsh
    obtain ⟨s', _, rfl⟩ := hsh
    obtain ⟨s, rfl, hx, _⟩ := DataW.trod_string hu h
    obtain ⟨u, hu1, hu2⟩ := hr.2 0 _ rfl
    simp only [List.getElem?_cons_zero, Option.some.injEq] at hu1
    subst hu1
    cases hu2
    rw [hx]
    simp [bulkR, bulkD, Rows.uptoBulk]
  · rename_i k hu
    rw [hu] at hsh
    obtain ⟨m, rfl⟩ := hsh
    simpa [bulkR, bulkD] using hone
  · rename_i e hu
    rw [hu] at hsh
    obtain ⟨rows, rfl, _, hrows⟩ := hsh
    obtain ⟨u, hu1, hu2⟩ := hr.2 0 _ rfl
    simp only [Bool.and_eq_true] at hs
    obtain ⟨⟨he, hce⟩, _⟩ := hs
    have hce' : 0 < P.cellsOf e := by simpa [Nat.blt_eq] using hce
    rcases DataW.trod_slice hu h with ⟨rfl, hx⟩ | ⟨a, len, cap, elems, rest, n, hn, rfl, hx, hb, hl, hm, hlen, hel, _, _⟩
    · simp only [List.getElem?_cons_zero, Option.some.injEq] at hu1
      generalize hre : D.sl rows = dd at hu2
      cases hu2 with
      | v _ _ => cases hre
      | pi _ _ _ _ _ _ => cases hre
      | fn _ _ _ _ _ => cases hre
      | sl rows' A c sz vs cap lim nil row val spot mem =>
        injection hre with hre; subst hre
        injection hu1 with h1 h2
        have : rows = [] := List.length_eq_zero_iff.1 h2.symm
        subst this
        simpa [bulkR, bulkD, bulkRR] using hone
    · simp only [List.getElem?_cons_zero, Option.some.injEq] at hu1
      generalize hre : D.sl rows = dd at hu2
      cases hu2 with
      | v _ _ => cases hre
      | pi _ _ _ _ _ _ => cases hre
      | fn _ _ _ _ _ => cases hre
      | sl rows' A c sz vs cap' lim nil row val spot mem =>
        injection hre with hre; subst hre
        injection hu1 with h1 h2 h3
        subst h1
        have key : bulkRR rows ≤ Rows.uptoBulkAll (elems.map (·.1)) := by
          refine zh4 rows _ (by rw [List.length_map]; omega) fun i q d hq hd => ?_
          have hi : i < rows.length := (List.getElem?_eq_some_iff.1 hq).1
          rw [List.getElem?_map, Option.map_eq_some_iff] at hd
          obtain ⟨y, hy, rfl⟩ := hd
          have h4 := hel i (by omega)
          rw [hy] at h4
          obtain ⟨us, hc, htr⟩ := Option.bind_eq_some_iff.1 h4
          obtain ⟨_, g1, g2⟩ := World.cells?_some hc
          obtain ⟨hq1, hq2⟩ := hrows q (List.mem_of_getElem? hq)
          have hsz : sz = P.cellsOf e := (row i q hq).symm.trans hq2
          have hsp := spot a rfl (by omega)
          refine ih n (by omega) e us y q he htr ⟨by rw [g1, hq2], fun j dd hj => ?_⟩ (by
            have : n0 = n := by omega
            rw [← this]; exact hq1)
          have hjl : j < q.length := (List.getElem?_eq_some_iff.1 hj).1
          have hv := val i q hq j dd hj
          have hm2 := (mem a rfl i hi j (by rw [hsz, ← hq2]; exact hjl)).2
          refine ⟨vs i j, ?_, hv⟩
          rw [← g2 j (by rw [← hq2]; exact hjl), ← hm2, hsz]
          obtain ⟨b, off, sp⟩ := a
          simp only at hsp
          subst hsp
          rw [Addr.add_lit, Addr.add_lit, Nat.add_assoc]
        rw [hx]
        simp only [bulkR, bulkD, Rows.uptoBulk]
        omega
  · rename_i fs hu
    rw [hu] at hsh
    simp only [Bool.and_eq_true, beq_iff_eq] at hs
    obtain ⟨hmem, hcon⟩ := hs
    obtain ⟨xs, n, hn, hx, hlen, hxs, hfl⟩ := DataW.trod_struct hu h
    have hnn : n0 = n := by omega
    subst hnn
    obtain ⟨hdl, hparts⟩ := hsh
    obtain ⟨_, h2⟩ := zf5 (P := P) ds fs.toList 0 _ (xs.map (·.1)) hcon (by rw [List.length_map, hxs]; simp) fun i f d hf hd => by
      rw [List.getElem?_map, Option.map_eq_some_iff] at hd
      obtain ⟨y, hy, rfl⟩ := hd
      rw [Array.getElem?_toList] at hf
      have h3 := hfl i f hf
      rw [hy] at h3
      refine ih n0 (by omega) _ _ _ _ ?_ h3 ((hr.drop _).take _) (hparts i f hf)
      exact List.all_eq_true.1 hmem f (by rw [← Array.getElem?_toList] at hf; exact List.mem_of_getElem? hf)
    rw [List.drop_zero, Nat.sub_zero, List.take_of_length_le (by omega)] at h2
    rw [hx]
    simp only [Rows.uptoBulk]
    omega
  · cases hs
end
theorem zeA : ∀ (l : List Pt), bulkRR (l.map encP) = (l.map fun p => bulkR (encP p)).sum
  | [] => by simp [bulkRR]
  | p :: l => by simp only [List.map_cons, bulkRR, zeA l, List.sum_cons]
theorem zji : ∀ p : Pt, 2 * (varsP p).length + ((varsP p).map ByteArray.size).sum ≤ bulkR (encP p) := Pt.ind fun p ih => by
  have hk : ∀ l : List Pt, (∀ k ∈ l, 2 * (varsP k).length + ((varsP k).map ByteArray.size).sum ≤ bulkR (encP k)) → 2 * (l.flatMap varsP).length + ((l.flatMap varsP).map ByteArray.size).sum ≤ (l.map fun p => bulkR (encP p)).sum := by
    intro l
    induction l with
    | nil => intro _; simp
    | cons x l ihl =>
      intro h
      have h1 := h x List.mem_cons_self
      have h2 := ihl fun k hk => h k (List.mem_cons_of_mem _ hk)
      rw [List.flatMap_cons, List.length_append, List.map_append, List.sum_append, List.map_cons, List.sum_cons]
      omega
  have hk := hk p.kids ih
  rw [zeW, List.length_append, List.map_append, List.sum_append]
  have ho : 2 * (ownV p).length + ((ownV p).map ByteArray.size).sum ≤ p.var.size + 2 := by
    unfold ownV
    split
    · simp
    · simp; omega
  rw [za9]
  simp only [bulkR, bulkD, zeA]
  omega
end Go.Proofs.YtjhkehloipmjfaaGreat
namespace Go.Proofs.YtjhkehloipmjfaaGreat
open Go.RowKit Go.ChangeShapes Go.WideShapes Go.Deep
theorem zlB {H : Type} {d : DataW H} {l : List (DataW H)} (h : d ∈ l) : Rows.uptoBulk d ≤ Rows.uptoBulkAll l := by
  induction l with
  | nil => cases h
  | cons x r ih =>
    simp only [Rows.uptoBulkAll]
    cases List.mem_cons.1 h with
    | inl e => subst e; omega
    | inr e => have := ih e; omega
theorem zjX {H : Type} {l : List (DataW H)} (hk : Rows.uptoSmall H l = true) : ∀ d ∈ l, Rows.uptoBulk d ≤ 1048576 := fun d hd => by
  have h1 : Rows.uptoBulkAll l ≤ 1048576 := of_decide_eq_true hk
  exact Nat.le_trans (zlB hd) h1
def simpleQ : List TypeId := 73 :: simpleL
theorem zfd : simpleQ.all (simpleT Tryz.prog simpleQ) = true := by kernel_rfl
section
variable {H : Type} {enc : TypeId × Value → H} {w : World} {base b0 : Nat} {spare : Nat → Bool} {held : Bool} {r : Reach} {ts : List TypeId} {ds : List (DataW H)}
theorem zku {j : Nat} {v : Value} {d : DataW H} {p : List MemPlace} (hsz : (DataW.weightsEach Tryz.prog ts ds).all (· ≤ reachBytes) = true) (ht : ts[j]? = some 34) (hd : ds[j]? = some d)
    (hv : Value.okWide Tryz.prog w r b0 34 v) (h : DataW.Trod enc Tryz.prog w base spare held 34 v d p) : ∃ e : Pt, PV (SW_ w) w (.dat (encP e)) v ∧ bulkR (encP e) ≤ Rows.uptoBulk d := by
  obtain ⟨cs, e, -⟩ := okWide_struct Tryz.underlying34 hv
  obtain ⟨n, hf⟩ := h
  obtain ⟨x, h1, h2⟩ := zeT simpleQ zfd n _ _ _ rfl hf (List.all_eq_true.2 fun y hy => List.all_eq_true.1 hsz y (DataW.weights_mem_each ht hd y hy))
  have h3 := ze1 simpleQ zfd n _ _ _ x rfl hf h1 h2
  obtain ⟨y, rfl⟩ := zlt n x h2
  exact ⟨y, zh2 e h1, h3⟩
end
theorem zkq {p : Pt} (h : bulkR (encP p) ≤ 1048576) : (varsP p).length ≤ 1000000 - 1 ∧ ((varsP p).map ByteArray.size).sum ≤ 2000000 := by
  have := zji p
  exact ⟨by omega, by omega⟩
end Go.Proofs.YtjhkehloipmjfaaGreat
namespace Go.Proofs.YtjhkehloipmjfaaGreat
open Go.RowKit Go.ChangeShapes Go.WideShapes Go.Deep
theorem zkh {n : Nat} {ds : List D} (h : Sh Tryz.prog n 81 ds) : ∃ p : Nd, ds = encNd p := by
  obtain ⟨m, rfl, hl, hf⟩ := zbM Tryz.underlying81 h
  have k1 : Tryz.prog.cellsOf 9 = 1 := by kernel_rfl
  have k2 : Tryz.prog.cellsOf 76 = 1 := by kernel_rfl
  have k3 : Tryz.prog.cellsOf 77 = 1 := by kernel_rfl
  have k4 : Tryz.prog.cellsOf 81 = 3 := by kernel_rfl
  rw [k4] at hl
  match ds, hl with
  | [a1, a2, a3], _ =>
    obtain ⟨x1, _, e1⟩ := zcI Tryz.underlying9 (show Sh Tryz.prog m 9 [a1] by simpa [k1] using hf 0 _ rfl)
    obtain ⟨x2, e2, _⟩ := zgu (show Sh Tryz.prog m 76 [a2] by simpa [k2] using hf 1 _ rfl)
    obtain ⟨x3, e3⟩ := zf6 (show Sh Tryz.prog m 77 [a3] by simpa [k3] using hf 2 _ rfl)
    simp only [List.cons.injEq, and_true] at e1 e2 e3
    exact ⟨⟨x1, x2, x3⟩, by unfold encNd; rw [e1, e2, e3]⟩
theorem zkd {n : Nat} {ds : List D} (h : Sh Tryz.prog n 79 ds) : ∃ p : Ed, ds = encEd p := by
  obtain ⟨m, rfl, hl, hf⟩ := zbM Tryz.underlying79 h
  have k1 : Tryz.prog.cellsOf 9 = 1 := by kernel_rfl
  have k2 : Tryz.prog.cellsOf 76 = 1 := by kernel_rfl
  have k3 : Tryz.prog.cellsOf 77 = 1 := by kernel_rfl
  have k4 : Tryz.prog.cellsOf 3 = 1 := by kernel_rfl
  have k5 : Tryz.prog.cellsOf 4 = 1 := by kernel_rfl
  have k6 : Tryz.prog.cellsOf 79 = 6 := by kernel_rfl
  rw [k6] at hl
  match ds, hl with
  | [a1, a2, a3, a4, a5, a6], _ =>
    obtain ⟨x1, _, e1⟩ := zcI Tryz.underlying9 (show Sh Tryz.prog m 9 [a1] by simpa [k1] using hf 0 _ rfl)
    obtain ⟨x2, _, e2⟩ := zb3 Tryz.underlying3 (show Sh Tryz.prog m 3 [a2] by simpa [k4] using hf 1 _ rfl)
    obtain ⟨x3, _, e3⟩ := zb3 Tryz.underlying3 (show Sh Tryz.prog m 3 [a3] by simpa [k4] using hf 2 _ rfl)
    obtain ⟨x4, e4⟩ := zlf Tryz.underlying4 (show Sh Tryz.prog m 4 [a4] by simpa [k5] using hf 3 _ rfl)
    obtain ⟨x5, e5, _⟩ := zgu (show Sh Tryz.prog m 76 [a5] by simpa [k2] using hf 4 _ rfl)
    obtain ⟨x6, e6⟩ := zf6 (show Sh Tryz.prog m 77 [a6] by simpa [k3] using hf 5 _ rfl)
    simp only [List.cons.injEq, and_true] at e1 e2 e3 e4 e5 e6
    exact ⟨⟨x1, x2, x3, x4, x5, x6⟩, by unfold encEd; rw [e1, e2, e3, e4, e5, e6]⟩
theorem zjm {n : Nat} {ds : List D} (h : Sh Tryz.prog n 25 ds) : ∃ p : Gr, ds = encG p := by
  obtain ⟨m, rfl, hl, hf⟩ := zbM Tryz.underlying25 h
  have k1 : Tryz.prog.cellsOf 22 = 1 := by kernel_rfl
  have k2 : Tryz.prog.cellsOf 23 = 1 := by kernel_rfl
  have k4 : Tryz.prog.cellsOf 25 = 2 := by kernel_rfl
  rw [k4] at hl
  match ds, hl with
  | [a1, a2], _ =>
    obtain ⟨m1, r1, hm1, e1, _, hr1⟩ := zb8 Tryz.underlying22 (show Sh Tryz.prog m 22 [a1] by simpa [k1] using hf 0 _ rfl)
    obtain ⟨m2, r2, hm2, e2, _, hr2⟩ := zb8 Tryz.underlying23 (show Sh Tryz.prog m 23 [a2] by simpa [k2] using hf 1 _ rfl)
    obtain ⟨l1, rfl⟩ := zbQ encNd (fun q => Sh Tryz.prog m1 81 q) (fun q hq => zkh hq) r1 hr1
    obtain ⟨l2, rfl⟩ := zbQ encEd (fun q => Sh Tryz.prog m2 79 q) (fun q hq => zkd hq) r2 hr2
    simp only [List.cons.injEq, and_true] at e1 e2
    exact ⟨⟨l1, l2⟩, by unfold encG; rw [e1, e2]⟩
def encB (b : Bool) : List D := [.v (.bool b)]
def encI (i : Int) : List D := [.v (.int .i64 i)]
def graphL : List TypeId := [3, 2, 4, 9, 26, 76, 35, 28, 147, 77, 81, 22, 79, 23, 25]
theorem zg9 : graphL.all (simpleT Tryz.prog graphL) = true := by kernel_rfl
section
variable {H : Type} {enc : TypeId × Value → H} {w : World} {base b0 : Nat} {spare : Nat → Bool} {held : Bool} {r : Reach} {ts : List TypeId} {ds : List (DataW H)}
theorem zif {j : Nat} {v : Value} {d : DataW H} {p : List MemPlace} (hsz : (DataW.weightsEach Tryz.prog ts ds).all (· ≤ reachBytes) = true) (ht : ts[j]? = some 25) (hd : ds[j]? = some d)
    (hv : Value.okWide Tryz.prog w r b0 25 v) (h : DataW.Trod enc Tryz.prog w base spare held 25 v d p) : ∃ e : Gr, PV (SW_ w) w (.dat (encG e)) v ∧ bulkR (encG e) ≤ Rows.uptoBulk d := by
  obtain ⟨cs, e, -⟩ := okWide_struct Tryz.underlying25 hv
  obtain ⟨n, hf⟩ := h
  obtain ⟨x, h1, h2⟩ := zeT graphL zg9 n _ _ _ rfl hf (List.all_eq_true.2 fun y hy => List.all_eq_true.1 hsz y (DataW.weights_mem_each ht hd y hy))
  have h3 := ze1 graphL zg9 n _ _ _ x rfl hf h1 h2
  obtain ⟨y, rfl⟩ := zjm h2
  exact ⟨y, zh2 e h1, h3⟩
end
theorem zgo : ∀ {l : List (List D)}, (∀ q ∈ l, 0 < bulkR q) → l.length ≤ bulkRR l
  | [], _ => by simp [bulkRR]
  | q :: l, h => by
    have h1 := h q List.mem_cons_self
    have h2 := zgo fun x hx => h x (List.mem_cons_of_mem _ hx)
    simp only [List.length_cons, bulkRR]; omega
theorem zeS {q : List D} : ∀ {l : List (List D)}, q ∈ l → bulkR q ≤ bulkRR l
  | x :: l, h => by
    simp only [bulkRR]
    rcases List.mem_cons.1 h with h | h
    · subst h; omega
    · have := zeS h; omega
theorem zfN (l : List Pr) : l.length ≤ bulkRR (l.map encPr) := by
  have := zgo (l := l.map encPr) fun q hq => by
    obtain ⟨p, _, rfl⟩ := List.mem_map.1 hq
    simp only [encPr, bulkR, bulkD]
    omega
  simpa using this
theorem zfQ {g : Gr} {b : Nat} (h : bulkR (encG g) ≤ b) : (∀ n ∈ g.nodes, n.props.length ≤ b) ∧ ∀ e ∈ g.edges, e.props.length ≤ b := by
  simp only [encG, bulkR, bulkD] at h
  constructor
  · intro n hn
    have h1 := zeS (List.mem_map_of_mem (f := encNd) hn)
    have h2 := zfN n.props
    simp only [encNd, bulkR, bulkD] at h1
    omega
  · intro n hn
    have h1 := zeS (List.mem_map_of_mem (f := encEd) hn)
    have h2 := zfN n.props
    simp only [encEd, bulkR, bulkD] at h1
    omega
end Go.Proofs.YtjhkehloipmjfaaGreat
namespace Go.Proofs.YtjhkehloipmjfaaGreat
open Go.RowKit
end Go.Proofs.YtjhkehloipmjfaaGreat
