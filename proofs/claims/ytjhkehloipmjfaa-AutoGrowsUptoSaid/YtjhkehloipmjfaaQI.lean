/- Plain data: graphs, sets; what a graph's bulk bounds. -/
import Derived.Test.YtjhkehloipmjfaaG1
import Derived.Test.YtjhkehloipmjfaaWV
import Derived.Test.YtjhkehloipmjfaaQ2
import Derived.Test.YtjhkehloipmjfaaMQ
import Derived.Test.YtjhkehloipmjfaaMD
import Derived.Test.YtjhkehloipmjfaaWO
namespace Go.Proofs.Ytjhkehloipmjfaa
open Go.RowKit Go.ChangeShapes Go.WideShapes Go.Deep
set_option maxRecDepth 100000 in
theorem dec_node {n : Nat} {ds : List D} (h : Sh Try.prog n 143 ds) : ∃ p : Nd, ds = encNd p := by
  obtain ⟨m, rfl, hl, hf⟩ := sh_struct Try.underlying143 h
  have k1 : Try.prog.cellsOf 9 = 1 := by kernel_rfl
  have k2 : Try.prog.cellsOf 41 = 1 := by kernel_rfl
  have k3 : Try.prog.cellsOf 28 = 1 := by kernel_rfl
  have k4 : Try.prog.cellsOf 143 = 3 := by kernel_rfl
  rw [k4] at hl
  match ds, hl with
  | [a1, a2, a3], _ =>
    obtain ⟨x1, _, e1⟩ := sh_str Try.underlying9 (show Sh Try.prog m 9 [a1] by simpa [k1] using hf 0 _ rfl)
    obtain ⟨x2, e2, _⟩ := dec_strs (show Sh Try.prog m 41 [a2] by simpa [k2] using hf 1 _ rfl)
    obtain ⟨x3, e3⟩ := dec_props (show Sh Try.prog m 28 [a3] by simpa [k3] using hf 2 _ rfl)
    simp only [List.cons.injEq, and_true] at e1 e2 e3
    exact ⟨⟨x1, x2, x3⟩, by unfold encNd; rw [e1, e2, e3]⟩
set_option maxRecDepth 100000 in
theorem dec_edge {n : Nat} {ds : List D} (h : Sh Try.prog n 146 ds) : ∃ p : Ed, ds = encEd p := by
  obtain ⟨m, rfl, hl, hf⟩ := sh_struct Try.underlying146 h
  have k1 : Try.prog.cellsOf 9 = 1 := by kernel_rfl
  have k2 : Try.prog.cellsOf 41 = 1 := by kernel_rfl
  have k3 : Try.prog.cellsOf 28 = 1 := by kernel_rfl
  have k4 : Try.prog.cellsOf 3 = 1 := by kernel_rfl
  have k5 : Try.prog.cellsOf 4 = 1 := by kernel_rfl
  have k6 : Try.prog.cellsOf 146 = 6 := by kernel_rfl
  rw [k6] at hl
  match ds, hl with
  | [a1, a2, a3, a4, a5, a6], _ =>
    obtain ⟨x1, _, e1⟩ := sh_str Try.underlying9 (show Sh Try.prog m 9 [a1] by simpa [k1] using hf 0 _ rfl)
    obtain ⟨x2, _, e2⟩ := sh_int Try.underlying3 (show Sh Try.prog m 3 [a2] by simpa [k4] using hf 1 _ rfl)
    obtain ⟨x3, _, e3⟩ := sh_int Try.underlying3 (show Sh Try.prog m 3 [a3] by simpa [k4] using hf 2 _ rfl)
    obtain ⟨x4, e4⟩ := sh_bool Try.underlying4 (show Sh Try.prog m 4 [a4] by simpa [k5] using hf 3 _ rfl)
    obtain ⟨x5, e5, _⟩ := dec_strs (show Sh Try.prog m 41 [a5] by simpa [k2] using hf 4 _ rfl)
    obtain ⟨x6, e6⟩ := dec_props (show Sh Try.prog m 28 [a6] by simpa [k3] using hf 5 _ rfl)
    simp only [List.cons.injEq, and_true] at e1 e2 e3 e4 e5 e6
    exact ⟨⟨x1, x2, x3, x4, x5, x6⟩, by unfold encEd; rw [e1, e2, e3, e4, e5, e6]⟩
set_option maxRecDepth 100000 in
theorem dec_graph {n : Nat} {ds : List D} (h : Sh Try.prog n 78 ds) : ∃ p : Gr, ds = encG p := by
  obtain ⟨m, rfl, hl, hf⟩ := sh_struct Try.underlying78 h
  have k1 : Try.prog.cellsOf 75 = 1 := by kernel_rfl
  have k2 : Try.prog.cellsOf 76 = 1 := by kernel_rfl
  have k4 : Try.prog.cellsOf 78 = 2 := by kernel_rfl
  rw [k4] at hl
  match ds, hl with
  | [a1, a2], _ =>
    obtain ⟨m1, r1, hm1, e1, _, hr1⟩ := sh_slice Try.underlying75 (show Sh Try.prog m 75 [a1] by simpa [k1] using hf 0 _ rfl)
    obtain ⟨m2, r2, hm2, e2, _, hr2⟩ := sh_slice Try.underlying76 (show Sh Try.prog m 76 [a2] by simpa [k2] using hf 1 _ rfl)
    obtain ⟨l1, rfl⟩ := list_dec encNd (fun q => Sh Try.prog m1 143 q) (fun q hq => dec_node hq) r1 hr1
    obtain ⟨l2, rfl⟩ := list_dec encEd (fun q => Sh Try.prog m2 146 q) (fun q hq => dec_edge hq) r2 hr2
    simp only [List.cons.injEq, and_true] at e1 e2
    exact ⟨⟨l1, l2⟩, by unfold encG; rw [e1, e2]⟩
def encB (b : Bool) : List D := [.v (.bool b)]
def encI (i : Int) : List D := [.v (.int .i64 i)]
theorem dec_bools {n : Nat} {ds : List D} (h : Sh Try.prog n 45 ds) : ∃ l : List Bool, ds = [.sl (l.map encB)] := by
  obtain ⟨m, rows, rfl, rfl, _, hr⟩ := sh_slice Try.underlying45 h
  obtain ⟨l, rfl⟩ := list_dec encB (fun q => Sh Try.prog m 4 q) (fun q hq => sh_bool Try.underlying4 hq) rows hr
  exact ⟨l, rfl⟩
def graphL : List TypeId := [3, 2, 4, 9, 22, 41, 45, 24, 47, 28, 143, 75, 146, 76, 78]
theorem graph_ok : graphL.all (simpleT Try.prog graphL) = true := by kernel_rfl
section
variable {H : Type} {enc : TypeId × Value → H} {w : World} {base b0 : Nat} {spare : Nat → Bool} {held : Bool} {r : Reach} {ts : List TypeId} {ds : List (DataW H)}
set_option maxRecDepth 100000 in
theorem arg_graphB {j : Nat} {v : Value} {d : DataW H} {p : List MemPlace} (hsz : (DataW.weightsEach Try.prog ts ds).all (· ≤ reachBytes) = true) (ht : ts[j]? = some 78) (hd : ds[j]? = some d)
    (hv : Value.okWide Try.prog w r b0 78 v) (h : DataW.Trod enc Try.prog w base spare held 78 v d p) : ∃ e : Gr, PV (SW_ w) w (.dat (encG e)) v ∧ bulkR (encG e) ≤ Rows.uptoBulk d := by
  obtain ⟨cs, e, -⟩ := okWide_struct Try.underlying78 hv
  obtain ⟨n, hf⟩ := h
  obtain ⟨x, h1, h2⟩ := open_any graphL graph_ok n _ _ _ rfl hf (List.all_eq_true.2 fun y hy => List.all_eq_true.1 hsz y (DataW.weights_mem_each ht hd y hy))
  have h3 := bulk_any graphL graph_ok n _ _ _ x rfl hf h1 h2
  obtain ⟨y, rfl⟩ := dec_graph h2
  exact ⟨y, arg_agg e h1, h3⟩
set_option maxRecDepth 100000 in
theorem arg_boolsB {j : Nat} {v : Value} {d : DataW H} {p : List MemPlace} (hsz : (DataW.weightsEach Try.prog ts ds).all (· ≤ reachBytes) = true) (ht : ts[j]? = some 45) (hd : ds[j]? = some d)
    (hv : Value.okWide Try.prog w r b0 45 v) (h : DataW.Trod enc Try.prog w base spare held 45 v d p) : ∃ l : List Bool, PV (SW_ w) w (vL (l.map encB)) v ∧ bulkR [.sl (l.map encB)] ≤ Rows.uptoBulk d := by
  obtain ⟨a, n, c, e⟩ := okWide_slice Try.underlying45 hv
  obtain ⟨n, hf⟩ := h
  obtain ⟨x, h1, h2⟩ := open_any graphL graph_ok n _ _ _ rfl hf (List.all_eq_true.2 fun y hy => List.all_eq_true.1 hsz y (DataW.weights_mem_each ht hd y hy))
  have h3 := bulk_any graphL graph_ok n _ _ _ x rfl hf h1 h2
  obtain ⟨y, rfl⟩ := dec_bools h2
  exact ⟨y, arg_sl e h1, h3⟩
end
theorem bulk_len : ∀ {l : List (List D)}, (∀ q ∈ l, 0 < bulkR q) → l.length ≤ bulkRR l
  | [], _ => by simp [bulkRR]
  | q :: l, h => by
    have h1 := h q List.mem_cons_self
    have h2 := bulk_len fun x hx => h x (List.mem_cons_of_mem _ hx)
    simp only [List.length_cons, bulkRR]; omega
theorem bulk_mem {q : List D} : ∀ {l : List (List D)}, q ∈ l → bulkR q ≤ bulkRR l
  | x :: l, h => by
    simp only [bulkRR]
    rcases List.mem_cons.1 h with h | h
    · subst h; omega
    · have := bulk_mem h; omega
theorem props_few (l : List Pr) : l.length ≤ bulkRR (l.map encPr) := by
  have := bulk_len (l := l.map encPr) fun q hq => by
    obtain ⟨p, _, rfl⟩ := List.mem_map.1 hq
    simp only [encPr, bulkR, bulkD]
    omega
  simpa using this
/-- each element has few properties -/
theorem graph_few {g : Gr} {b : Nat} (h : bulkR (encG g) ≤ b) : (∀ n ∈ g.nodes, n.props.length ≤ b) ∧ ∀ e ∈ g.edges, e.props.length ≤ b := by
  simp only [encG, bulkR, bulkD] at h
  constructor
  · intro n hn
    have h1 := bulk_mem (List.mem_map_of_mem (f := encNd) hn)
    have h2 := props_few n.props
    simp only [encNd, bulkR, bulkD] at h1
    omega
  · intro n hn
    have h1 := bulk_mem (List.mem_map_of_mem (f := encEd) hn)
    have h2 := props_few n.props
    simp only [encEd, bulkR, bulkD] at h1
    omega
end Go.Proofs.Ytjhkehloipmjfaa
/- Walks: a state enters a set; whether a move stays, goes. -/
namespace Go.Proofs.Ytjhkehloipmjfaa
open Go.RowKit
theorem has_v (l : List Bool) (i : Int) (h0 : 0 ≤ i) : CallsV Try.prog 61 [vL (l.map encB), vI i] (.val (vB (hasB l i.toNat))) := by
  have hlm : (l.map encB).length = l.length := List.length_map _
  (refine callsV_of_W (Ty := Ty) ty_ok Try.func61 rfl rfl rfl fun w0 S0 => ?_; simp only [argsF, List.zipIdx_cons, List.zipIdx_nil, List.map_cons, List.map_nil, Nat.zero_add])
  by_cases hi : i < (l.length : Int)
  · obtain ⟨b, hb⟩ : ∃ b, l[i.toNat]? = some b := ⟨_, List.getElem?_eq_getElem (by omega)⟩
    repeat' (first | refine W_seq ?_ | refine W_region ?_ | ((first | refine RL_nil ?_ | refine W_skip ?_ | refine W_ret ?_); (first | change W _ _ _ _ _ | change EndQ _ _ _ _ _ _ | change Exists _ | skip)) | (refine isRL ?_; first | refine uMv ?_ | refine uAs ?_ | refine uO ?_ | (refine isBin ?_; first | refine uBb true ?_ | refine uBb false ?_ | refine uP ?_) | (refine isLd ?_; first | refine uLp ?_ | refine uLb ?_ | refine uL1 ?_ | refine uL2 ?_ | refine uP ?_) | (refine isCl ?_; first | refine uP ?_) | refine uX ?_ | refine uP ?_ | ((first | refine uGsD ?_ ?_ | refine uGsE ?_ ?_ | refine uGsN ?_ ?_ | refine uGsND ?_ ?_ | refine uGsNE ?_ ?_ | refine uGsNB ?_ ?_ | refine uGs ?_ ?_) <;> intro hb)))
    exact end_r (by rfl) (by rw [hasB_get hb]; rfl)
  · have hf : hasB l i.toNat = false := by unfold hasB; rw [List.getElem?_eq_none (by omega)]; rfl
    repeat' (first | refine W_seq ?_ | refine W_region ?_ | ((first | refine RL_nil ?_ | refine W_skip ?_ | refine W_ret ?_); (first | change W _ _ _ _ _ | change EndQ _ _ _ _ _ _ | change Exists _ | skip)) | (refine isRL ?_; first | refine uMv ?_ | refine uAs ?_ | refine uO ?_ | (refine isBin ?_; first | refine uBb true ?_ | refine uBb false ?_ | refine uP ?_) | (refine isLd ?_; first | refine uLp ?_ | refine uLb ?_ | refine uL1 ?_ | refine uL2 ?_ | refine uP ?_) | (refine isCl ?_; first | refine uP ?_) | refine uX ?_ | refine uP ?_ | ((first | refine uGsD ?_ ?_ | refine uGsE ?_ ?_ | refine uGsN ?_ ?_ | refine uGsND ?_ ?_ | refine uGsNE ?_ ?_ | refine uGsNB ?_ ?_ | refine uGs ?_ ?_) <;> intro hb)))
    exact end_r (by rfl) (by rw [hf]; rfl)
theorem upd_B {l : List Bool} {k : Nat} (b : Bool) (hk : k < l.length) : (l.map encB).take (0 + k) ++ [[.v (.bool b)]] ++ (l.map encB).drop (0 + k + 1) = (l.set k b).map encB := by
  rw [Nat.zero_add, List.map_set, List.set_eq_take_append_cons_drop, if_pos (by rw [List.length_map]; exact hk), List.append_assoc]; rfl
/-- what a closure finds of its caller's: a set, and what is to be done -/
def closeS (out : List Bool) (todo : List Int) (tot n : Nat) : Obs := [(1001, .cell 81 (.win 1003 0 n n 1)), (1002, .cell 113 (.que 1004 1 tot (todo.map encI))), (1003, .arr 4 1 (out.map encB)), (1004, .tok 3 1)]
set_option maxRecDepth 100000 in
set_option maxHeartbeats 4000000 in
theorem enter_m (q : Qs) (x : Int) (n : Nat) (hl : q.1.length = n) (h0 : 0 ≤ x) (hx : x < n) (hn : n ≤ 1000000) : CallsM Try.prog 60 [vI x, .one (.po 1001 0), .one (.po 1002 0)] (closeS q.1 q.2 (trues q.1) n) (.tup []) (closeS (enterQ q x).1 (enterQ q x).2 (trues (enterQ q x).1) n) := by
  obtain ⟨out, todo⟩ := q
  dsimp only at hl
  have htn := trues_le out
  have hlm : (out.map encB).length = n := by rw [List.length_map]; exact hl
  have hz : sized 1 (todo.map encI) = true := by unfold sized; rw [List.all_map]; exact List.all_eq_true.2 fun _ _ => rfl
  obtain ⟨b, hb⟩ : ∃ b, out[x.toNat]? = some b := ⟨_, List.getElem?_eq_getElem (by omega)⟩
  have hbb : (out.map encB)[0 + x.toNat]? = some [.v (.bool b)] := by rw [Nat.zero_add, List.getElem?_map, hb]; rfl
  have hhas : hasB out x.toNat = b := hasB_get hb
  cases b with
  | true =>
    have e : enterQ (out, todo) x = (out, todo) := if_pos hhas
    rw [e]
    unfold closeS
    (refine callsM_of_W (Ty := Ty) ty_ok Try.func60 rfl rfl rfl (by rfl) fun w0 S0 hp => ?_; simp only [argsF, List.zipIdx_cons, List.zipIdx_nil, List.map_cons, List.map_nil, Nat.zero_add])
    repeat' (first | refine W_seq ?_ | refine W_region ?_ | ((first | refine RL_nil ?_ | refine W_skip ?_ | refine W_ret ?_); (first | change W _ _ _ _ _ | change EndM _ _ _ _ _ _ _ | change Exists _ | skip)) | (refine isRL ?_; first | refine uWix ?_ | refine uPelv (.bool true) ?_ hbb | refine uMv ?_ | (refine isLd ?_; first | refine uLp ?_ | refine uLb ?_ | refine uL1 ?_ | refine uL2 ?_ | refine uP ?_) | (refine isCl ?_; first | refine uP ?_ | refine uAk ?_ | refine uA ?_ | refine uA0 ?_ | refine uWl ?_) | (refine isSt ?_; first | refine uSw ?_ | refine uS ?_ | refine uSc ?_ | refine uSo ?_) | refine uX ?_ | refine uBu true ?_ | refine uBu false ?_ | refine uBs ?_ | refine uP ?_) | refine wT fun _ => ?_ | refine wF fun _ => ?_ | ((first | refine wCsD ?_ ?_ | refine wCsE ?_ ?_ | refine wCsN ?_ ?_ | refine wCsND ?_ ?_ | refine wCsNE ?_ ?_ | refine wCsNB ?_ ?_ | refine wCs ?_ ?_) <;> intro hb))
    exact end_mn (by rfl) rfl (by (repeat (first | exact gHas_nil _ | refine gHas_cons (by rfl) ?_)))
  | false =>
    have hlt : x.toNat < out.length := by omega
    have e : enterQ (out, todo) x = (out.set x.toNat true, todo ++ [x]) := if_neg (by rw [hhas]; decide)
    have hc := (cnt_set hlt hhas).1
    have hu := upd_B true hlt
    have hap : todo.map encI ++ [encI x] = (todo ++ [x]).map encI := by rw [List.map_append]; rfl
    have htr : trues out + [encI x].length = trues (out.set x.toNat true) := by rw [hc]; rfl
    rw [e]
    unfold closeS
    (refine callsM_of_W (Ty := Ty) ty_ok Try.func60 rfl rfl rfl (by rfl) fun w0 S0 hp => ?_; simp only [argsF, List.zipIdx_cons, List.zipIdx_nil, List.map_cons, List.map_nil, Nat.zero_add])
    repeat' (first | refine W_seq ?_ | refine W_region ?_ | ((first | refine RL_nil ?_ | refine W_skip ?_ | refine W_ret ?_); (first | change W _ _ _ _ _ | change EndM _ _ _ _ _ _ _ | change Exists _ | skip)) | (refine isRL ?_; first | refine uWix ?_ | refine uPelv (.bool false) ?_ hbb | refine uPev ((out.set x.toNat true).map encB) ?_ (hrows := hu) (hm := by rw [List.length_map]; omega) | refine uApq ?_ (hr' := hap) (hn1 := htr) | refine uMv ?_ | (refine isLd ?_; first | refine uLp ?_ | refine uLb ?_ | refine uL1 ?_ | refine uL2 ?_ | refine uP ?_) | (refine isCl ?_; first | refine uP ?_ | refine uAk ?_ | refine uA ?_ | refine uA0 ?_ | refine uWl ?_) | (refine isSt ?_; first | refine uSw ?_ | refine uS ?_ | refine uSc ?_ | refine uSo ?_) | refine uX ?_ | refine uBu true ?_ | refine uBu false ?_ | refine uBs ?_ | refine uP ?_) | refine wT fun _ => ?_ | refine wF fun _ => ?_ | ((first | refine wCsD ?_ ?_ | refine wCsE ?_ ?_ | refine wCsN ?_ ?_ | refine wCsND ?_ ?_ | refine wCsNE ?_ ?_ | refine wCsNB ?_ ?_ | refine wCs ?_ ?_) <;> intro hb))
    exact end_mn (by rfl) rfl (by (repeat (first | exact gHas_nil _ | refine gHas_cons (by rfl) ?_)))
end Go.Proofs.Ytjhkehloipmjfaa
