/- Walks: in which directions an edge leads from one node to another one. -/
import Derived.Test.YtjhkehloipmjfaaGreatGR
import Derived.Test.YtjhkehloipmjfaaGreatQI
import Derived.Test.YtjhkehloipmjfaaGreatMK
import Derived.Test.YtjhkehloipmjfaaGreatGX
import Derived.Shelf.SortM.Plain
import Derived.Shelf.SortM.SortNone
import Derived.Test.YtjhkehloipmjfaaGreatWI
import Derived.Shelf.Slices.In.CompactS
import Derived.Sort.EveryDepth
import Derived.Test.YtjhkehloipmjfaaGreatWM
set_option maxRecDepth 100000
set_option maxHeartbeats 4000000
namespace Go.Proofs.YtjhkehloipmjfaaGreat
open Go.RowKit
section
variable {w0 : W0} {S0 : Nat → Nat → Prop} {nt : Nat} {fr : Fr} {σ : Obs} {o : Oper} {ops : Array Oper} {rest : List Oper} {d : Nat} {t t2 : TypeId} {Q : Fr → Obs → Prop}
theorem uOr {xx yy : Operand} {a b c : Int} (hc : IntKind.i64.wrap (BitVec.ofInt IntKind.i64.bits a ||| BitVec.ofInt IntKind.i64.bits b).toNat = c) (h : RL (cx nt w0 S0) ops rest ((d, vI c) :: fr) σ Q) (ho : o.op = .binOp .or t xx yy t2 := by rfl) (hdst : o.dst = some d := by rfl) (hd : Nat.blt d nt = true := by rfl) (hw : wantA ops o fr = some true := by rfl) (hx : ev fr xx = some (vI a) := by rfl) (hy : ev fr yy = some (vI b) := by rfl) : RL (cx nt w0 S0) ops (o :: rest) fr σ Q :=
  ⟨fun γ T S w a' K hrel hk => wpList_step fun K' hK => by
    rw [if_pos (zau hrel hw)]
    have h1 : a'.eval xx = .int .i64 a := zaJ (zak hrel hx)
    have h2 : a'.eval yy = .int .i64 b := zaJ (zak hrel hy)
    have hex : (execOp a'.eval o).run (cx nt w0 S0).P w = .ok (.value (.int .i64 c)) w := by
      have hg : (eqGuard .or t xx yy (.int .i64 a) (.int .i64 b)).run (cx nt w0 S0).P w = .ok () w := rfl
      simp only [execOp, ho, h1, h2, Sem.run_bind, hg, Result.andThen_ok]
      have hb : (binOp .or t (.int .i64 a) (.int .i64 b)).run (cx nt w0 S0).P w = .ok (.int .i64 c) w := by rw [← hc]; rfl
      simp only [hb, Result.andThen_ok, Sem.run_pure]
    unfold Oper.wp
    rw [hex]
    refine hK _ _ (h.out γ T S w _ K ?_ hk)
    rw [hdst]
    exact hrel.put (dst := some d) hd (.one (.v _ rfl))⟩
end
def along3 : Bool → Bool → Bool → Int
  | false, false, _ => 0
  | _, _, false => 2
  | true, true, true => 5
  | true, false, true => 4
  | false, true, true => 1
def alongE (d : Ed) (x y : Int) : Int := along3 (decide (d.src = x ∧ d.dst = y)) (decide (d.src = y ∧ d.dst = x)) d.dir
def alongF (g : Gr) (e x y : Int) : Int := if e < 0 then 0 else match g.edges[e.toNat]? with
  | none => 0
  | some d => alongE d x y
theorem zgp {g : Gr} {e x y : Int} (h : e < 0 ∨ (g.edges.length : Int) ≤ e) : alongF g e x y = 0 := by
  unfold alongF
  split
  · rfl
  · rw [List.getElem?_eq_none (by omega)]
theorem zfv {g : Gr} {e x y : Int} {d : Ed} (h0 : ¬ e < 0) (h : g.edges[e.toNat]? = some d) : alongF g e x y = alongE d x y := by
  unfold alongF
  rw [if_neg h0, h]
theorem zlx (g : Gr) (e x y : Int) : CallsV Tryz.prog 25 [.dat (encG g), vI e, vI x, vI y] (.val (vI (alongF g e x y))) := by
  have hle : (g.edges.map encEd).length = g.edges.length := List.length_map _
  unfold encG
  by_cases h : e < 0 ∨ (g.edges.length : Int) ≤ e
  · rw [zgp h]
    rcases h with h | h
    all_goals
      (refine zaj (Ty := Ty) zag Tryz.func25 rfl rfl rfl fun w0 S0 => ?_; simp only [argsF, List.zipIdx_cons, List.zipIdx_nil, List.map_cons, List.map_nil, Nat.zero_add])
      repeat' (first | refine zac ?_ | refine zaa ?_ | ((first | refine zab ?_ | refine zae ?_); (first | change W _ _ _ _ _ | skip)) | (refine isRL ?_; first | refine uMv ?_ | refine uAs ?_ | refine uO ?_ | (refine isBin ?_; first | refine uBb true ?_ | refine uBb false ?_ ) | (refine isLd ?_; first | refine uL1 ?_ ) | (refine isCl ?_; first | refine uP ?_) | (refine isFa ?_; first | refine uP ?_) | refine uP ?_ | refine uBx ?_ ) | refine wT fun _ => ?_ )
      exact zah (by rfl) rfl
  obtain ⟨d, hd⟩ : ∃ d, g.edges[e.toNat]? = some d := ⟨_, List.getElem?_eq_getElem (by omega)⟩
  rw [zfv (by omega) hd]
  unfold alongE
  cases e1 : decide (d.src = x ∧ d.dst = y) <;> cases e2 : decide (d.src = y ∧ d.dst = x) <;> cases e3 : d.dir
  all_goals
    simp only [decide_eq_true_eq, decide_eq_false_iff_not] at e1 e2
    (refine zaj (Ty := Ty) zag Tryz.func25 rfl rfl rfl fun w0 S0 => ?_; simp only [argsF, List.zipIdx_cons, List.zipIdx_nil, List.map_cons, List.map_nil, Nat.zero_add])
    repeat' (first | refine zac ?_ | refine zaa ?_ | ((first | refine zab ?_ | refine zaf ?_ | refine zae ?_); (first | change W _ _ _ _ _ | change EndQ _ _ _ _ _ _ | skip)) | (refine isRL ?_; first | refine uOr (a := 0) (b := 4) (c := 4) (by decide) ?_ | refine uOr (a := 0) (b := 1) (c := 1) (by decide) ?_ | refine uOr (a := 4) (b := 1) (c := 5) (by decide) ?_ | refine uMv ?_ | refine uAs ?_ | refine uO ?_ | (refine isBin ?_; first | refine uBb true ?_ | refine uBb false ?_ | refine uP ?_) | (refine isLd ?_; first | refine uLp ?_ | refine uL1 ?_ ) | (refine isCl ?_; first | refine uP ?_) | (refine isFa ?_; first | refine uP ?_) | (refine isSt ?_; first | refine uSw ?_ ) | refine uX ?_ | refine uP ?_ | refine uBx ?_ | refine uN ?_ | ((first | refine uGsD ?_ ?_ ) <;> intro hb)) | refine wT fun _ => ?_ | refine wF fun _ => ?_ | ((first | refine wCsNB ?_ ?_ ) <;> intro hb))
    all_goals first | exact zah (by rfl) rfl | (exfalso; rw [e3] at hb; cases hb)
theorem zkV (g : Gr) (e x y : Int) : CallsV Tryz.prog 41 [.dat (encG g), vI e, vI x, vI y] (.val (vI (alongF g e x y))) := by
  have hle : (g.edges.map encEd).length = g.edges.length := List.length_map _
  unfold encG
  by_cases h : e < 0 ∨ (g.edges.length : Int) ≤ e
  · rw [zgp h]
    rcases h with h | h
    all_goals
      (refine zaj (Ty := Ty) zag Tryz.func41 rfl rfl rfl fun w0 S0 => ?_; simp only [argsF, List.zipIdx_cons, List.zipIdx_nil, List.map_cons, List.map_nil, Nat.zero_add])
      repeat' (first | refine zac ?_ | refine zaa ?_ | ((first | refine zab ?_ | refine zae ?_); (first | change W _ _ _ _ _ | skip)) | (refine isRL ?_; first | refine uMv ?_ | refine uAs ?_ | refine uO ?_ | (refine isBin ?_; first | refine uBb true ?_ | refine uBb false ?_ ) | (refine isLd ?_; first | refine uL1 ?_ ) | (refine isCl ?_; first | refine uP ?_) | (refine isFa ?_; first | refine uP ?_) | refine uP ?_ | refine uBx ?_ ) | refine wT fun _ => ?_ )
      exact zah (by rfl) rfl
  obtain ⟨d, hd⟩ : ∃ d, g.edges[e.toNat]? = some d := ⟨_, List.getElem?_eq_getElem (by omega)⟩
  rw [zfv (by omega) hd]
  unfold alongE
  cases e1 : decide (d.src = x ∧ d.dst = y) <;> cases e2 : decide (d.src = y ∧ d.dst = x) <;> cases e3 : d.dir
  all_goals
    simp only [decide_eq_true_eq, decide_eq_false_iff_not] at e1 e2
    (refine zaj (Ty := Ty) zag Tryz.func41 rfl rfl rfl fun w0 S0 => ?_; simp only [argsF, List.zipIdx_cons, List.zipIdx_nil, List.map_cons, List.map_nil, Nat.zero_add])
    repeat' (first | refine zac ?_ | refine zaa ?_ | ((first | refine zab ?_ | refine zaf ?_ | refine zae ?_); (first | change W _ _ _ _ _ | change EndQ _ _ _ _ _ _ )) | (refine isRL ?_; first | refine uOr (a := 0) (b := 1) (c := 1) (by decide) ?_ | refine uOr (a := 4) (b := 1) (c := 5) (by decide) ?_ | refine uMv ?_ | refine uAs ?_ | refine uO ?_ | (refine isBin ?_; first | refine uBb true ?_ | refine uBb false ?_ | refine uP ?_) | (refine isLd ?_; first | refine uLp ?_ | refine uL1 ?_ ) | (refine isCl ?_; first | refine uP ?_) | (refine isFa ?_; first | refine uP ?_) | (refine isSt ?_; first | refine uSw ?_ ) | refine uX ?_ | refine uP ?_ | refine uBx ?_ | refine uN ?_ | ((first | refine uGsD ?_ ?_ | refine uGsNB ?_ ?_ ) <;> intro hb)) | refine wT fun _ => ?_ | refine wF fun _ => ?_ )
    all_goals first | exact zah (by rfl) rfl | (exfalso; rw [e3] at hb; cases hb)
end Go.Proofs.YtjhkehloipmjfaaGreat
namespace Go.Proofs.YtjhkehloipmjfaaGreat
open Go.RowKit
end Go.Proofs.YtjhkehloipmjfaaGreat
namespace Go.Proofs.YtjhkehloipmjfaaGreat
open Go.RowKit
section
variable {X : Ctx} {fr : Fr} {σ : Obs} {o : Oper} {ops : Array Oper} {rest : List Oper} {d : Nat} {xx yy : Operand} {γ : Nat → Nat} {T : Nat → Value} {S : Nat → Nat → Prop} {w : World} {a : Act}
variable {τ0 σB : Obs} {K : List Cr} {C0 : Cons} {QD : Fr → Obs → Prop} {j : Nat}
end
section
variable {w0 : W0} {S0 : Nat → Nat → Prop} {nt : Nat} {fr : Fr} {σ τ0 σB : Obs} {o : Oper} {ops : Array Oper} {rest : List Oper} {d : Nat} {xx yy : Operand} {QD : Fr → Obs → Prop} {K : List Cr} {C0 : Cons} {j : Nat}
end
end Go.Proofs.YtjhkehloipmjfaaGreat
namespace Go.Proofs.YtjhkehloipmjfaaGreat
open Go.RowKit Go.Sort Go.Shelf
def Tryz.sort88_ren : Go.Shelf.Ren := ⟨fun | 6 => 88 | 8 => 111 | 9 => 110 | 19 => 140 | 20 => 141 | 21 => 131 | 22 => 132 | 23 => 133 | 24 => 134 | 25 => 135 | 26 => 136 | 27 => 137 | 28 => 138 | 29 => 139 | 36 => 165 | 31 => 166 | 32 => 167 | 37 => 168 | 38 => 169 | 39 => 170 | 41 => 188 | n => n, fun | 27 => 76 | 29 => 9 | 3 => 3 | 32 => 134 | 26 => 76 | 0 => 0 | 44 => 159 | 46 => 162 | 4 => 4 | 36 => 197 | 35 => 196 | 41 => 133 | 5 => 5 | 9 => 9 | 53 => 221 | 57 => 225 | 63 => 238 | 64 => 239 | n => n, fun | n => n⟩
theorem Tryz.sort88 : Go.Proofs.SlLaysM.n6 Tryz.prog Tryz.sort88_ren := {
  mixed := by kernel_rfl
  f6 := ⟨Tryz.f88.name, by decide, Tryz.func88.trans (congrArg some (by kernel_rfl))⟩
  f8 := Tryz.func111.trans (congrArg some (by kernel_rfl))
  f9 := ⟨Tryz.f110.name, by decide, Tryz.func110.trans (congrArg some (by kernel_rfl))⟩
  f19 := Tryz.func140.trans (congrArg some (by kernel_rfl))
  f20 := Tryz.func141.trans (congrArg some (by kernel_rfl))
  f21 := ⟨Tryz.f131.name, by decide, Tryz.func131.trans (congrArg some (by kernel_rfl))⟩
  f22 := ⟨Tryz.f132.name, by decide, Tryz.func132.trans (congrArg some (by kernel_rfl))⟩
  f23 := ⟨Tryz.f133.name, by decide, Tryz.func133.trans (congrArg some (by kernel_rfl))⟩
  f24 := ⟨Tryz.f134.name, by decide, Tryz.func134.trans (congrArg some (by kernel_rfl))⟩
  f25 := ⟨Tryz.f135.name, by decide, Tryz.func135.trans (congrArg some (by kernel_rfl))⟩
  f26 := ⟨Tryz.f136.name, by decide, Tryz.func136.trans (congrArg some (by kernel_rfl))⟩
  f27 := ⟨Tryz.f137.name, by decide, Tryz.func137.trans (congrArg some (by kernel_rfl))⟩
  f28 := ⟨Tryz.f138.name, by decide, Tryz.func138.trans (congrArg some (by kernel_rfl))⟩
  f29 := ⟨Tryz.f139.name, by decide, Tryz.func139.trans (congrArg some (by kernel_rfl))⟩
  f31 := Tryz.func166.trans (congrArg some (by kernel_rfl))
  f32 := Tryz.func167.trans (congrArg some (by kernel_rfl))
  f36 := ⟨Tryz.f165.name, by decide, Tryz.func165.trans (congrArg some (by kernel_rfl))⟩
  f37 := ⟨Tryz.f168.name, by decide, Tryz.func168.trans (congrArg some (by kernel_rfl))⟩
  f38 := ⟨Tryz.f169.name, by decide, Tryz.func169.trans (congrArg some (by kernel_rfl))⟩
  f39 := ⟨Tryz.f170.name, by decide, Tryz.func170.trans (congrArg some (by kernel_rfl))⟩
  f41 := ⟨Tryz.f188.name, by decide, Tryz.func188.trans (congrArg some (by kernel_rfl))⟩
  t0 := Tryz.underlying0
  a0 := Tryz.isAgg0
  z0 := Tryz.sizeOf0
  v0 := Tryz.zeroValue0
  t3 := Tryz.underlying3
  a3 := Tryz.isAgg3
  z3 := Tryz.sizeOf3
  v3 := Tryz.zeroValue3
  t4 := Tryz.underlying4
  a4 := Tryz.isAgg4
  z4 := Tryz.sizeOf4
  v4 := Tryz.zeroValue4
  t5 := Tryz.underlying5
  a5 := Tryz.isAgg5
  z5 := Tryz.sizeOf5
  v5 := Tryz.zeroValue5
  t9 := Tryz.underlying9
  a9 := Tryz.isAgg9
  z9 := Tryz.sizeOf9
  v9 := Tryz.zeroValue9
  t26 := Tryz.underlying76
  a26 := Tryz.isAgg76
  z26 := Tryz.sizeOf76
  v26 := Tryz.zeroValue76
  t27 := Tryz.underlying76
  a27 := Tryz.isAgg76
  z27 := Tryz.sizeOf76
  v27 := Tryz.zeroValue76
  t29 := Tryz.underlying9
  a29 := Tryz.isAgg9
  z29 := Tryz.sizeOf9
  v29 := Tryz.zeroValue9
  t32 := Tryz.underlying134
  a32 := Tryz.isAgg134
  z32 := Tryz.sizeOf134
  v32 := Tryz.zeroValue134
  t35 := Tryz.underlying196
  a35 := Tryz.isAgg196
  z35 := Tryz.sizeOf196
  v35 := Tryz.zeroValue196
  t36 := Tryz.underlying197
  a36 := Tryz.isAgg197
  z36 := Tryz.sizeOf197
  v36 := Tryz.zeroValue197
  t41 := Tryz.underlying133
  a41 := Tryz.isAgg133
  z41 := Tryz.sizeOf133
  v41 := Tryz.zeroValue133
  t44 := Tryz.underlying159
  a44 := Tryz.isAgg159
  z44 := Tryz.sizeOf159
  v44 := Tryz.zeroValue159
  t46 := Tryz.underlying162
  a46 := Tryz.isAgg162
  z46 := Tryz.sizeOf162
  v46 := Tryz.zeroValue162
  t53 := Tryz.underlying221
  a53 := Tryz.isAgg221
  z53 := Tryz.sizeOf221
  v53 := Tryz.zeroValue221
  t57 := Tryz.underlying225
  a57 := Tryz.isAgg225
  z57 := Tryz.sizeOf225
  v57 := Tryz.zeroValue225
  t63 := Tryz.underlying238
  a63 := Tryz.isAgg238
  z63 := Tryz.sizeOf238
  v63 := Tryz.zeroValue238
  t64 := Tryz.underlying239
  a64 := Tryz.isAgg239
  z64 := Tryz.sizeOf239
  v64 := Tryz.zeroValue239 }
theorem zlK : SortsG Tryz.prog 88 := ⟨enters_of Tryz.func88 (by kernel_rfl) rfl, fun blk off cap ss W hH hblk hsz => AnyM.slices_Sort_string Tryz.sort88 blk off cap ss W hH hblk hsz, fun p cap W => AnyM.slices_Sort_string_none Tryz.sort88 p cap W⟩
end Go.Proofs.YtjhkehloipmjfaaGreat
namespace Go.Proofs.YtjhkehloipmjfaaGreat
open Go.RowKit Go.Sort Go.Shelf
def Tryz.compact60_ren : Go.Shelf.Ren := ⟨fun | 194 => 60 | n => n, fun | 31 => 76 | 9 => 9 | 3 => 3 | 4 => 4 | 0 => 0 | n => n, fun | n => n⟩
theorem Tryz.compact60 : Go.Proofs.Lays.n194 Tryz.prog Tryz.compact60_ren := {
  mixed := by kernel_rfl
  f194 := Tryz.func60.trans (congrArg some (by kernel_rfl))
  t0 := Tryz.underlying0
  a0 := Tryz.isAgg0
  z0 := Tryz.sizeOf0
  v0 := Tryz.zeroValue0
  t3 := Tryz.underlying3
  a3 := Tryz.isAgg3
  z3 := Tryz.sizeOf3
  v3 := Tryz.zeroValue3
  t4 := Tryz.underlying4
  a4 := Tryz.isAgg4
  z4 := Tryz.sizeOf4
  v4 := Tryz.zeroValue4
  t9 := Tryz.underlying9
  a9 := Tryz.isAgg9
  z9 := Tryz.sizeOf9
  v9 := Tryz.zeroValue9
  t31 := Tryz.underlying76
  a31 := Tryz.isAgg76
  z31 := Tryz.sizeOf76
  v31 := Tryz.zeroValue76 }
theorem zlD : CompG Tryz.prog 60 := ⟨enters_of Tryz.func60 (by kernel_rfl) rfl, fun blk off cap zs w h1 h2 h3 => calls_of_every_depth fun D => AnyS.slices_Compact_string_in Tryz.compact60 D blk off cap zs w h1 h2 h3, fun p cap w => calls_of_every_depth fun D => AnyS.slices_Compact_string_empty_in Tryz.compact60 D p cap w⟩
end Go.Proofs.YtjhkehloipmjfaaGreat
