/- Walks: the reference's values of expressions. Of the results nothing is said but that they are. -/
import Derived.Test.YtjhkehloipmjfaaGreatRE
set_option maxRecDepth 100000
set_option maxHeartbeats 16000000
namespace Go.Proofs.YtjhkehloipmjfaaGreat
open Go.RowKit
theorem zi9 (v : Val) (t o : Bool) : CallsN Tryz.prog 147 [.one (.po 1000 0), .dat (encV v)] [(1000, .obj 186 [.d (.v (.bool t)), .d (.v (.bool o))])] (fun y σ1 => ∃ i : Int × Bool × Bool, y = vI i.1 ∧ σ1 = [(1000, .obj 186 [.d (.v (.bool i.2.1)), .d (.v (.bool i.2.2))])] ∧ True) := by
  have h := zjH v
  (refine zam (Ty := Ty) zag Tryz.func147 rfl rfl rfl (by rfl) fun w0 S0 hp => ?_; simp only [argsF, List.zipIdx_cons, List.zipIdx_nil, List.map_cons, List.map_nil, Nat.zero_add])
  repeat' (first | refine zac ?_ | refine zaa ?_ | ((first | refine zab ?_ | refine zae ?_); (first | change W _ _ _ _ _ | change EndN _ _ _ _ _ _ )) | (refine isRL ?_; first | refine uNx h (fun i _ => ?_) | refine uMv ?_ | refine uAs ?_ | refine uO ?_ | (refine isBin ?_; first | refine uP ?_ ) | (refine isLd ?_; first | refine uLb ?_ | refine uP ?_) | (refine isFa ?_; first | refine uP ?_) | (refine isSt ?_; first | refine uSo ?_) | refine uNp ?_ | refine uP ?_ | refine uBx ?_ | ((first | refine uGs ?_ ?_) <;> intro hb)))
  all_goals first | exact zaw (by rfl) rfl ghasA ⟨(_, _, _), rfl, rfl, trivial⟩
abbrev PartR : VV → Obs → Prop := fun y σ1 => ∃ i : Val × Bool × Bool, y = .dat (encV i.1) ∧ σ1 = [(1000, .obj 186 [.d (.v (.bool i.2.1)), .d (.v (.bool i.2.2))])] ∧ True
theorem zj0 (ps : List Pr) : ∀ (e : E), ShE e → ∀ t o : Bool, CallsN Tryz.prog 116 [.one (.po 1000 0), .dat (encE e), vL (ps.map encPr)] [(1000, .obj 186 [.d (.v (.bool t)), .d (.v (.bool o))])] PartR := E.ind fun e ih hs t o => by
  have hlm : (e.kids.map encE).length = e.kids.length := List.length_map _
  have hlp : (ps.map encPr).length = ps.length := List.length_map _
  obtain ⟨_, h1, hk⟩ := hs
  by_cases k1 : e.kind = 1
  · (refine zam (Ty := Ty) zag Tryz.func116 rfl rfl rfl (by rfl) fun w0 S0 hp => ?_; simp only [argsF, List.zipIdx_cons, List.zipIdx_nil, List.map_cons, List.map_nil, Nat.zero_add])
    repeat' (first | refine zac ?_ | refine zaa ?_ | ((first | refine zab ?_ | refine zae ?_ ); (first | change W _ _ _ _ _ | change Exists _ )) | (refine isRL ?_; first | refine uAs ?_ | (refine isBin ?_; first | refine uBb true ?_ ) | (refine isLd ?_; first | refine uL1 ?_ ) | (refine isFa ?_; first | refine uP ?_) | (refine isSt ?_; first | refine uSw ?_ ) | refine uBx ?_ | refine uN ?_ ) | refine zad ?_ | refine wT fun _ => ?_ )
    exact zaw (by rfl) rfl ghasA ⟨(e.val, _, _), rfl, rfl, trivial⟩
  by_cases k2 : e.kind = 2
  · (refine zam (Ty := Ty) zag Tryz.func116 rfl rfl rfl (by rfl) fun w0 S0 hp => ?_; simp only [argsF, List.zipIdx_cons, List.zipIdx_nil, List.map_cons, List.map_nil, Nat.zero_add])
    repeat' (first | refine zac ?_ | refine zaa ?_ | ((first | refine zab ?_ ); (first | change W _ _ _ _ _ )) | (refine isRL ?_; first | refine uAs ?_ | (refine isBin ?_; first | refine uBb true ?_ | refine uBb false ?_ ) | (refine isLd ?_; first | refine uL1 ?_ ) | (refine isFa ?_; first | refine uP ?_) | refine uBx ?_ | refine uN ?_ ) | refine zad ?_ | refine wT fun _ => ?_ | refine wF fun _ => ?_ )
    refine zaL (α := Nat) (fun i => [(2, vL (ps.map encPr)), (4, .one (.po 4 0)), (6, .one (.po 6 0)), (7, vI i)]) (fun _ => [(4, .box 31 (encE e)), (6, .box 28 (encV zeroVal)), (1000, .obj 186 [.d (.v (.bool t)), .d (.v (.bool o))])]) (fun i => i ≤ ps.length) (fun i => ps.length - i) 0 (Nat.zero_le _) subA subA ?_
    intro i hi
    refine zbp (t := 2) (rows := ps.map encPr) rfl rfl fun hlim => ?_
    rw [hlp] at hlim
    by_cases hlt : i < ps.length
    · obtain ⟨q, hq⟩ : ∃ q, ps[i]? = some q := ⟨_, List.getElem?_eq_getElem hlt⟩
      repeat' (first | refine zac ?_ | refine zaa ?_ | ((first | refine zab ?_ | refine zaf ?_ | refine zae ?_ | refine mN ?_); (first | change W _ _ _ _ _ | change Exists _ )) | (refine isRL ?_; first | refine uMv ?_ | refine uAs ?_ | (refine isBin ?_; first | refine uIb ?_ | refine uBb true ?_ ) | (refine isLd ?_; first | refine uLp ?_ ) | (refine isCl ?_; first | refine uP ?_) | (refine isFa ?_; first | refine uP ?_) | (refine isSt ?_; first | refine uSw ?_ ) | refine uX ?_ ) | refine zad ?_ | refine wT fun _ => ?_ | refine uAny ?_ | (refine isD ?_; first | refine mMv ?_ | (refine imBin ?_; first | refine mP ?_ ) | (refine imLd ?_; first | refine mL1 ?_ | refine mL2 ?_ ) | (refine imFa ?_; first | refine mP ?_) | refine mX ?_ ) | ((first | refine wCs ?_ ?_) <;> intro hb))
      all_goals first | exact zaw (by rfl) rfl ghasA ⟨(q.val, _, _), rfl, rfl, trivial⟩ | exact ⟨i + 1, by omega, by omega, subA, subA⟩
    · repeat' (first | refine zac ?_ | refine zaa ?_ | ((first | refine zab ?_ | refine zaD ?_ | refine zae ?_ ); (first | change W _ _ _ _ _ | change Exists _ )) | (refine isRL ?_; first | refine uMv ?_ | (refine isBin ?_; first | refine uBb false ?_ ) | (refine isCl ?_; first | refine uP ?_) | (refine isBd ?_; first | refine uBd ?_ ) | (refine isSt ?_; first | refine uSw ?_ ) ) | refine wF fun _ => ?_ )
      exact zaw (by rfl) rfl ghasA ⟨(⟨_, _, _, _⟩, _, _), rfl, rfl, trivial⟩
  have k3 : e.kind = 3 := by omega
  have hl : e.kids.length = 1 ∨ e.kids.length = 2 := by omega
  obtain ⟨p, hp⟩ : ∃ q, e.kids[0]? = some q := ⟨_, List.getElem?_eq_getElem (by omega)⟩
  have hP := ih p (List.mem_of_getElem? hp) (hk k3 p (List.mem_of_getElem? hp)) t o
  have hv := zjv
  have hn := zlc
  have hT := zi9
  have hA : ∀ (a b d : Int), CallsN Tryz.prog 148 [vL [encT a, encT b], vI d] [] OneI := fun a b d => zlL [a, b] d
  have hR := zir e.name
  have hTe := zks e.name
  by_cases l2 : e.kids.length = 2
  · obtain ⟨q, hq⟩ : ∃ q, e.kids[1]? = some q := ⟨_, List.getElem?_eq_getElem (by omega)⟩
    have hQ := ih q (List.mem_of_getElem? hq) (hk k3 q (List.mem_of_getElem? hq))
    (refine zam (Ty := Ty) zag Tryz.func116 rfl rfl rfl (by rfl) fun w0 S0 hp => ?_; simp only [argsF, List.zipIdx_cons, List.zipIdx_nil, List.map_cons, List.map_nil, Nat.zero_add])
    repeat' (first | refine zac ?_ | refine zaa ?_ | ((first | refine zab ?_ | refine zaf ?_ | refine zae ?_ ); (first | change W _ _ _ _ _ | change EndN _ _ _ _ _ _ | change Exists _ )) | (refine isRL ?_; first | refine uNx hP (fun i _ => ?_) | refine uNx (hQ _ _) (fun j _ => ?_) | refine uNx (hT _ _ _) (fun i _ => ?_) | refine uNx (hv _) (fun i _ => ?_) | refine uNx (hn _) (fun i _ => ?_) | refine uNx (hA _ _ _) (fun i _ => ?_) | refine uNx (hR _ _) (fun i _ => ?_) | refine uNx (hTe _ _) (fun i _ => ?_) | refine uMv ?_ | refine uAs ?_ | refine uO ?_ | (refine isBin ?_; first | refine uBb true ?_ | refine uBb false ?_ | refine uP ?_ ) | (refine isLd ?_; first | refine uLp ?_ | refine uLb ?_ | refine uL1 ?_ | refine uP ?_) | (refine isCl ?_; first | refine uP ?_) | (refine isFa ?_; first | refine uP ?_) | (refine isBd ?_; first | refine uBd ?_ ) | (refine isSt ?_; first | refine uSw ?_ | refine uSo ?_) | refine uX ?_ | refine uBs ?_ | refine uNp ?_ | refine uP ?_ | refine uBx ?_ | refine uN ?_ | ((first | refine uGs ?_ ?_) <;> intro hb)) | refine zad ?_ | refine wT fun _ => ?_ | refine wF fun _ => ?_ | ((first | refine wCsD ?_ ?_ | refine wCsN ?_ ?_ | refine wCs ?_ ?_) <;> intro hb))
    all_goals first | exact zaw (by rfl) rfl ghasA ⟨(_, _, _), rfl, rfl, trivial⟩ | exact zaw (by rfl) rfl ghasA ⟨(⟨_, _, _, _⟩, _, _), rfl, rfl, trivial⟩
  · (refine zam (Ty := Ty) zag Tryz.func116 rfl rfl rfl (by rfl) fun w0 S0 hp => ?_; simp only [argsF, List.zipIdx_cons, List.zipIdx_nil, List.map_cons, List.map_nil, Nat.zero_add])
    repeat' (first | refine zac ?_ | refine zaa ?_ | ((first | refine zab ?_ | refine zaf ?_ | refine zae ?_ ); (first | change W _ _ _ _ _ | change EndN _ _ _ _ _ _ | change Exists _ )) | (refine isRL ?_; first | refine uNx hP (fun i _ => ?_) | refine uNx (hT _ _ _) (fun i _ => ?_) | refine uNx (hT zeroVal _ _) (fun i _ => ?_) | refine uNx (hv _) (fun i _ => ?_) | refine uNx (hn _) (fun i _ => ?_) | refine uNx (hA _ _ _) (fun i _ => ?_) | refine uNx (hR _ zeroVal) (fun i _ => ?_) | refine uNx (hTe _ zeroVal) (fun i _ => ?_) | refine uMv ?_ | refine uAs ?_ | refine uO ?_ | (refine isBin ?_; first | refine uBb false ?_ | refine uP ?_ ) | (refine isLd ?_; first | refine uLp ?_ | refine uLb ?_ | refine uL1 ?_ | refine uP ?_) | (refine isCl ?_; first | refine uP ?_) | (refine isFa ?_; first | refine uP ?_) | (refine isBd ?_; first | refine uBd ?_ ) | (refine isSt ?_; first | refine uSw ?_ | refine uSo ?_) | refine uX ?_ | refine uBs ?_ | refine uNp ?_ | refine uP ?_ | refine uBx ?_ | refine uN ?_ | ((first | refine uGs ?_ ?_) <;> intro hb)) | refine zad ?_ | refine wF fun _ => ?_ | ((first | refine wCsD ?_ ?_ | refine wCsN ?_ ?_ | refine wCs ?_ ?_) <;> intro hb))
    all_goals first | exact zaw (by rfl) rfl ghasA ⟨(_, _, _), rfl, rfl, trivial⟩ | exact zaw (by rfl) rfl ghasA ⟨(⟨_, _, _, _⟩, _, _), rfl, rfl, trivial⟩
theorem zjZ (e : E) (ps : List Pr) : CallsN Tryz.prog 95 [.dat (encE e), vL (ps.map encPr)] [] ValI := by
  have hR := zje e
  have hP := zj0 ps e
  (refine zam (Ty := Ty) zag Tryz.func95 rfl rfl rfl (by rfl) fun w0 S0 hp => ?_; simp only [argsF, List.zipIdx_cons, List.zipIdx_nil, List.map_cons, List.map_nil, Nat.zero_add])
  repeat' (first | refine zac ?_ | refine zaa ?_ | ((first | refine zab ?_ | refine zaf ?_ | refine zae ?_); (first | change W _ _ _ _ _ | change Exists _ )) | (refine isRL ?_; first | refine uNx hR (fun b hbq => ?_) | refine uMv ?_ | refine uAs ?_ | (refine isLd ?_; first | refine uLb ?_ ) | (refine isBd ?_; first | refine uBd ?_ ) | (refine isSt ?_; first | refine uSw ?_ ) | refine uP ?_ | refine uBx ?_ | refine uN ?_) | ((first | refine wCsNB ?_ ?_ ) <;> intro hb))
  · exact zaw (by rfl) rfl ghasA ⟨(⟨_, _, _, _⟩, _), rfl, rfl, trivial⟩
  have hs := hbq hb
  refine uBO 15 (zk4 (by decide)) ?_
  refine uRn 15 1000 (zaS (hp 1000 rfl)) ?_
  repeat' (first | refine zac ?_ | refine zaa ?_ | ((first | refine zab ?_ | refine zaf ?_ | refine zae ?_); (first | change W _ _ _ _ _ | change EndN _ _ _ _ _ _ | change Exists _ )) | (refine isRL ?_; first | refine uNx (hP hs _ _) (fun i _ => ?_) | refine uMv ?_ | refine uAs ?_ | (refine isLd ?_; first | refine uLb ?_ | refine uP ?_) | (refine isFa ?_; first | refine uP ?_) | (refine isBd ?_; first | refine uBd ?_ ) | (refine isSt ?_; first | refine uSw ?_ ) | refine uNp ?_ | refine uN ?_) | ((first | refine wCs ?_ ?_) <;> intro hb))
  all_goals first | exact zaw (by rfl) rfl ghasA ⟨(_, _), rfl, rfl, trivial⟩ | exact zaw (by rfl) rfl ghasA ⟨(⟨_, _, _, _⟩, _), rfl, rfl, trivial⟩
theorem ziY (e : E) (ps : List Pr) : CallsN Tryz.prog 66 [.dat (encE e), vL (ps.map encPr)] [] (fun y σ1 => ∃ i : Bool × Int, y = .tup [vB i.1, vI i.2] ∧ σ1 = [] ∧ True) := by
  have hE := zjZ e ps
  have hO := zjH
  (refine zam (Ty := Ty) zag Tryz.func66 rfl rfl rfl (by rfl) fun w0 S0 hp => ?_; simp only [argsF, List.zipIdx_cons, List.zipIdx_nil, List.map_cons, List.map_nil, Nat.zero_add])
  repeat' (first | refine zac ?_ | refine zaa ?_ | ((first | refine zab ?_ | refine zaf ?_ | refine zae ?_); (first | change W _ _ _ _ _ | change EndN _ _ _ _ _ _ | change Exists _ )) | (refine isRL ?_; first | refine uNx hE (fun i _ => ?_) | refine uNx (hO _) (fun i _ => ?_) | refine uMv ?_ | refine uAs ?_ | (refine isBin ?_; first | refine uP ?_ ) | (refine isLd ?_; first | refine uLb ?_ | refine uL1 ?_ ) | (refine isFa ?_; first | refine uP ?_) | (refine isSt ?_; first | refine uSw ?_ ) | refine uP ?_ | refine uBx ?_ | refine uN ?_) | ((first | refine wCsD ?_ ?_ | refine wCsN ?_ ?_ ) <;> intro hb))
  all_goals exact zaw (by rfl) rfl ghasA ⟨(_, _), rfl, rfl, trivial⟩
end Go.Proofs.YtjhkehloipmjfaaGreat
