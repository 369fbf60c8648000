/- Encodings: properties,nodes,edges,graphs. -/
import Derived.Test.YtiplihojmfbjkaaGreatWE
import Derived.Test.YtiplihojmfbjkaaGreatEF
import Derived.Test.YtiplihojmfbjkaaGreatWM
set_option maxRecDepth 100000
namespace Go.Proofs.YtiplihojmfbjkaaGreat
structure Pr where
  name:ByteArray
  val:Val
def encPr (p:Pr):List D:=.v (.string p.name) :: encV p.val
structure Nd where
  name:ByteArray
  labels:List ByteArray
  props:List Pr
structure Ed where
  name:ByteArray
  src:Int
  dst:Int
  dir:Bool
  labels:List ByteArray
  props:List Pr
structure Gr where
  nodes:List Nd
  edges:List Ed
def encNd (n:Nd):List D:=[.v (.string n.name),.sl (n.labels.map encS),.sl (n.props.map encPr)]
def encEd (e:Ed):List D:=[.v (.string e.name),.v (.int .i64 e.src),.v (.int .i64 e.dst),.v (.bool e.dir),.sl (e.labels.map encS),.sl (e.props.map encPr)]
def encG (g:Gr):List D:=[.sl (g.nodes.map encNd),.sl (g.edges.map encEd)]
end Go.Proofs.YtiplihojmfbjkaaGreat
namespace Go.Proofs.YtiplihojmfbjkaaGreat
open Go.RowKit
theorem zaL {s t:ByteArray} (h:eqL s t=true):s=t:=by
  unfold eqL at h
  rw [ByteArray.toList_eq,ByteArray.toList_eq,beq_iff_eq] at h
  cases s;cases t
  simp only [ByteArray.mk.injEq]
  exact Array.toList_inj.1 h
def oc (s:ByteArray):Nat :=
  if eqL s ⟨#[97,110,100]⟩=true then 0 else if eqL s ⟨#[111,114]⟩=true then 1 else if eqL s ⟨#[110,111,116]⟩=true then 2
  else if eqL s ⟨#[105,115,110,117,108,108]⟩=true then 3 else if eqL s ⟨#[43]⟩=true then 4 else if eqL s ⟨#[45]⟩=true then 5 else if eqL s ⟨#[42]⟩=true then 6 else 7
theorem znL {s:ByteArray} {c:Nat} (n0:eqL s ⟨#[97,110,100]⟩=Nat.beq c 0) (n1:eqL s ⟨#[111,114]⟩=Nat.beq c 1) (n2:eqL s ⟨#[110,111,116]⟩=Nat.beq c 2) (n3:eqL s ⟨#[105,115,110,117,108,108]⟩=Nat.beq c 3)
    (n4:eqL s ⟨#[43]⟩=Nat.beq c 4) (n5:eqL s ⟨#[45]⟩=Nat.beq c 5) (n6:eqL s ⟨#[42]⟩=Nat.beq c 6):Nm s c:=⟨n0,n1,n2,n3,n4,n5,n6⟩
theorem zhP (s:ByteArray):Nm s (oc s):=by
  have lit:∀ c t,s=t→(∀ u∈[(⟨#[97,110,100]⟩:ByteArray)],u=u)→eqL t ⟨#[97,110,100]⟩=Nat.beq c 0∧eqL t ⟨#[111,114]⟩=Nat.beq c 1∧eqL t ⟨#[110,111,116]⟩=Nat.beq c 2∧eqL t ⟨#[105,115,110,117,108,108]⟩=Nat.beq c 3∧eqL t ⟨#[43]⟩=Nat.beq c 4∧eqL t ⟨#[45]⟩=Nat.beq c 5∧eqL t ⟨#[42]⟩=Nat.beq c 6→Nm s c:=fun c t e _ h=>by
    subst e;exact znL h.1 h.2.1 h.2.2.1 h.2.2.2.1 h.2.2.2.2.1 h.2.2.2.2.2.1 h.2.2.2.2.2.2
  unfold oc
  split
  · next h=>exact lit 0 _ (zaL h) (by simp) (by unfold eqL;simp only [ByteArray.toList_eq];decide)
  next h0 =>
  split
  · next h=>exact lit 1 _ (zaL h) (by simp) (by unfold eqL;simp only [ByteArray.toList_eq];decide)
  next h1 =>
  split
  · next h=>exact lit 2 _ (zaL h) (by simp) (by unfold eqL;simp only [ByteArray.toList_eq];decide)
  next h2 =>
  split
  · next h=>exact lit 3 _ (zaL h) (by simp) (by unfold eqL;simp only [ByteArray.toList_eq];decide)
  next h3 =>
  split
  · next h=>exact lit 4 _ (zaL h) (by simp) (by unfold eqL;simp only [ByteArray.toList_eq];decide)
  next h4 =>
  split
  · next h=>exact lit 5 _ (zaL h) (by simp) (by unfold eqL;simp only [ByteArray.toList_eq];decide)
  next h5 =>
  split
  · next h=>exact lit 6 _ (zaL h) (by simp) (by unfold eqL;simp only [ByteArray.toList_eq];decide)
  next h6 =>
  have ff:∀ {b:Bool},¬ b=true→b=false:=fun h=>Bool.eq_false_iff.2 h
  exact znL (ff h0) (ff h1) (ff h2) (ff h3) (ff h4) (ff h5) (ff h6)
def testF (s:ByteArray):Int→Bool :=
  if eqL s ⟨#[61]⟩=true then (fun c=>c==0) else if eqL s ⟨#[60,62]⟩=true then (fun c=>c != 0) else if eqL s ⟨#[60]⟩=true then (fun c=>decide (c < 0))
  else if eqL s ⟨#[60,61]⟩=true then (fun c=>decide (c≤0)) else if eqL s ⟨#[62]⟩=true then (fun c=>decide (c > 0)) else (fun c=>decide (c≥0))
def testN (s:ByteArray):Bool:=eqL s ⟨#[60,62]⟩
theorem zoY {s:ByteArray} (hk:opKids s > 0) (ho:oc s=7):Six s (testF s) (testN s):=by
  have hn:=zhP s
  rw [ho] at hn
  have m0:eqL s ⟨#[97,110,100]⟩=false:=hn.n0
  have m1:eqL s ⟨#[111,114]⟩=false:=hn.n1
  have m2:eqL s ⟨#[110,111,116]⟩=false:=hn.n2
  have m3:eqL s ⟨#[105,115,110,117,108,108]⟩=false:=hn.n3
  have m4:eqL s ⟨#[43]⟩=false:=hn.n4
  have m5:eqL s ⟨#[45]⟩=false:=hn.n5
  have m6:eqL s ⟨#[42]⟩=false:=hn.n6
  have lit:∀ t f ne,s=t→testF t=f→testN t=ne→Six t f ne→Six s (testF s) (testN s):=fun t f ne e h1 h2 h=>by subst e;subst h1;subst h2;exact h
  by_cases h:eqL s ⟨#[61]⟩=true
  · exact lit _ _ _ (zaL h) (by unfold testF eqL;simp only [ByteArray.toList_eq];rfl) (by unfold testN eqL;simp only [ByteArray.toList_eq];rfl) .eq
  by_cases h1:eqL s ⟨#[60,62]⟩=true
  · exact lit _ _ _ (zaL h1) (by unfold testF eqL;simp only [ByteArray.toList_eq];rfl) (by unfold testN eqL;simp only [ByteArray.toList_eq];rfl) .ne
  by_cases h2:eqL s ⟨#[60]⟩=true
  · exact lit _ _ _ (zaL h2) (by unfold testF eqL;simp only [ByteArray.toList_eq];rfl) (by unfold testN eqL;simp only [ByteArray.toList_eq];rfl) .lt
  by_cases h3:eqL s ⟨#[60,61]⟩=true
  · exact lit _ _ _ (zaL h3) (by unfold testF eqL;simp only [ByteArray.toList_eq];rfl) (by unfold testN eqL;simp only [ByteArray.toList_eq];rfl) .le
  by_cases h4:eqL s ⟨#[62]⟩=true
  · exact lit _ _ _ (zaL h4) (by unfold testF eqL;simp only [ByteArray.toList_eq];rfl) (by unfold testN eqL;simp only [ByteArray.toList_eq];rfl) .gt
  by_cases h5:eqL s ⟨#[62,61]⟩=true
  · exact lit _ _ _ (zaL h5) (by unfold testF eqL;simp only [ByteArray.toList_eq];rfl) (by unfold testN eqL;simp only [ByteArray.toList_eq];rfl) .ge
  exfalso
  unfold opKids at hk
  rw [m0,m1,m2,m3,m4,m5,m6,Bool.eq_false_iff.2 h,Bool.eq_false_iff.2 h1,Bool.eq_false_iff.2 h2,Bool.eq_false_iff.2 h3,Bool.eq_false_iff.2 h4,Bool.eq_false_iff.2 h5] at hk
  exact absurd hk (by decide)
theorem zhX {s:ByteArray} {k:Nat} (hk:k < 3) (ho:oc s=4+k):Ari s k:=by
  have hn:=zhP s
  rw [ho] at hn
  match k,hk with
  | 0,_=>rw [zaL (s:=s) hn.n4];exact .add
  | 1,_=>rw [zaL (s:=s) hn.n5];exact .sub
  | 2,_=>rw [zaL (s:=s) hn.n6];exact .mul
theorem zjX (s:ByteArray) (hk:opKids s > 0):opKids s=if oc s=2∨oc s=3 then 1 else 2:=by
  have hn:=zhP s
  have m2:eqL s ⟨#[110,111,116]⟩=Nat.beq (oc s) 2:=hn.n2
  have m3:eqL s ⟨#[105,115,110,117,108,108]⟩=Nat.beq (oc s) 3:=hn.n3
  by_cases h2:oc s=2
  · rw [h2] at m2
    have:=zaL m2
    rw [if_pos (.inl h2),this]
    unfold opKids eqL;simp only [ByteArray.toList_eq];rfl
  by_cases h3:oc s=3
  · rw [h3] at m3
    have:=zaL m3
    rw [if_pos (.inr h3),this]
    unfold opKids eqL;simp only [ByteArray.toList_eq];rfl
  rw [if_neg (by omega)]
  have e2:Nat.beq (oc s) 2=false:=by cases h:Nat.beq (oc s) 2 with|false=>rfl|true=>exact absurd (Nat.eq_of_beq_eq_true h) h2
  have e3:Nat.beq (oc s) 3=false:=by cases h:Nat.beq (oc s) 3 with|false=>rfl|true=>exact absurd (Nat.eq_of_beq_eq_true h) h3
  rw [e2] at m2
  rw [e3] at m3
  unfold opKids at hk ⊢
  rw [m2,m3] at hk ⊢
  split
  · rfl
  · rename_i hc
    rw [if_neg hc] at hk
    exact absurd hk (by decide)
def opR (s:ByteArray) (l:List Val):Option (Val × Bool) :=
  match oc s,l with
  | 0,l=>if ∀ v∈l,ofE v≠4 then some (valT (andL (l.map ofT) 1),false) else none
  | 1,[a,b]=>if ∀ v∈[a,b],ofE v≠4 then some (valT (notT (andL [notT (ofT a),notT (ofT b)] 1)),false) else none
  | 2,[a]=>if ∀ v∈[a],ofE v≠4 then some (valT (notT (ofT a)),false) else none
  | 3,[a]=>some (valT (if a.kind=0 then 1 else 0),false)
  | 4,[a,b]=>if (reckonR 0 a b).2=4 then none else some ((reckonR 0 a b).1,(reckonR 0 a b).2==7)
  | 5,[a,b]=>if (reckonR 1 a b).2=4 then none else some ((reckonR 1 a b).1,(reckonR 1 a b).2==7)
  | 6,[a,b]=>if (reckonR 2 a b).2=4 then none else some ((reckonR 2 a b).1,(reckonR 2 a b).2==7)
  | 7,[a,b]=>if (testR (testF s) (testN s) a b).2=4 then none else some ((testR (testF s) (testN s) a b).1,false)
  | _,_=>none
theorem zdM {l:List Val} (h:¬ ∀ v∈l,ofE v≠4):truthsV l=none:=by
  cases ht:truthsV l with
  | none=>rfl
  | some ts=>exact absurd (ziJ ht).2 h
theorem zpo {s:ByteArray} {ps:List (List D)} {ov:Bool} {l:List Val} (hk:opKids s > 0) (hl:opKids s=(l.length:Int)):match opR s l with
    | some r=>CallsM Tryz.prog 222 [.one (.po 1001 0),vS s,vL (l.map encV)] (rkS ps ov) (.dat (encV r.1)) (rkS ps (ov || r.2))
    | none=>CallsP Tryz.prog 222 [.one (.po 1001 0),vS s,vL (l.map encV)] (rkS ps ov) pvWrong:=by
  have hn:=zhP s
  have hkk:=zjX s hk
  have hlen:l.length≤1000:=by
    rw [hkk] at hl
    split at hl<;>omega
  have hoc:oc s≤7:=by
    unfold oc
    (repeat' split)<;>omega
  have h1:(oc s=2∨oc s=3)→ ∃ a,l=[a]:=fun h=>by
    rw [if_pos h] at hkk
    match l,(show l.length=1 by omega) with
    | [a],_=>exact ⟨a,rfl⟩
  have h2:¬ (oc s=2∨oc s=3)→ ∃ a b,l=[a,b]:=fun h=>by
    rw [if_neg h] at hkk
    match l,(show l.length=2 by omega) with
    | [a,b],_=>exact ⟨a,b,rfl⟩
  unfold opR
  obtain ⟨c,hc⟩:∃ c,oc s=c:=⟨_,rfl⟩
  have hsix:=fun h=>zoY hk h
  have hari0:=fun h=>zhX (s:=s) (k:=0) (by decide) h
  have hari1:=fun h=>zhX (s:=s) (k:=1) (by decide) h
  have hari2:=fun h=>zhX (s:=s) (k:=2) (by decide) h
  rw [hc] at hn hoc h1 h2 hsix hari0 hari1 hari2 ⊢
  match c,hn,hoc,h1,h2,hsix,hari0,hari1,hari2 with
  | 0,hn,_,_,_,_,_,_,_ =>
    by_cases ht:∀ v∈l,ofE v≠4
    · simp only [if_pos ht,Bool.or_false];exact zpx hn hlen ht
    · simp only [if_neg ht];exact znp hn hlen (zdM ht)
  | 1,hn,_,_,h2,_,_,_,_ =>
    obtain ⟨a,b,rfl⟩:=h2 (by omega)
    by_cases ht:∀ v∈[a,b],ofE v≠4
    · simp only [if_pos ht,Bool.or_false];exact zqd hn ht
    · simp only [if_neg ht];exact zoG hn hlen (zdM ht)
  | 2,hn,_,h1,_,_,_,_,_ =>
    obtain ⟨a,rfl⟩:=h1 (by omega)
    by_cases ht:∀ v∈[a],ofE v≠4
    · simp only [if_pos ht,Bool.or_false];exact zpt hn ht
    · simp only [if_neg ht];exact zmV hn hlen (zdM ht)
  | 3,hn,_,h1,_,_,_,_,_ =>
    obtain ⟨a,rfl⟩:=h1 (by omega)
    simp only [Bool.or_false];exact znP hn
  | 4,hn,_,_,h2,_,ha,_,_ =>
    obtain ⟨a,b,rfl⟩:=h2 (by omega)
    by_cases ht:(reckonR 0 a b).2=4
    · simp only [if_pos ht];exact zng hn (ha rfl) ht
    · simp only [if_neg ht];exact zoU hn (ha rfl) ht
  | 5,hn,_,_,h2,_,_,ha,_ =>
    obtain ⟨a,b,rfl⟩:=h2 (by omega)
    by_cases ht:(reckonR 1 a b).2=4
    · simp only [if_pos ht];exact zmW hn (ha rfl) ht
    · simp only [if_neg ht];exact zpO hn (ha rfl) ht
  | 6,hn,_,_,h2,_,_,_,ha =>
    obtain ⟨a,b,rfl⟩:=h2 (by omega)
    by_cases ht:(reckonR 2 a b).2=4
    · simp only [if_pos ht];exact znk hn (ha rfl) ht
    · simp only [if_neg ht];exact zo8 hn (ha rfl) ht
  | 7,hn,_,_,h2,hx,_,_,_ =>
    obtain ⟨a,b,rfl⟩:=h2 (by omega)
    by_cases ht:(testR (testF s) (testN s) a b).2=4
    · simp only [if_pos ht];exact zl3 hn (hx rfl) ht
    · simp only [if_neg ht,Bool.or_false];exact zoK hn (hx rfl) ht
  | c+8,_,hoc,_,_,_,_,_,_=>exact absurd hoc (by omega)
def look1 (ps:List Pr) (s:ByteArray):Val:=match ps.find? (fun p=>eqL p.name s) with
  | some p=>p.val
  | none=>zeroVal
def allS {α:Type}:List (Option α)→Option (List α)
  | []=>some []
  | none :: _=>none
  | some x :: l=>(allS l).map (x :: ·)
def evalE (ps:List Pr):E→Option (Val × Bool):=foldE fun e ks =>
  if e.kind=1 then some (e.val,false) else if e.kind=2 then some (look1 ps e.name,false)
  else match allS ks with
    | none=>none
    | some l=>(opR e.name (l.map (·.1))).map fun r=>(r.1,l.any (·.2) || r.2)
theorem znw (ps:List Pr) (e:E):evalE ps e=if e.kind=1 then some (e.val,false) else if e.kind=2 then some (look1 ps e.name,false)
  else match allS (e.kids.map (evalE ps)) with
    | none=>none
    | some l=>(opR e.name (l.map (·.1))).map fun r=>(r.1,l.any (·.2) || r.2):=by
  unfold evalE
  rw [zfU]
end Go.Proofs.YtiplihojmfbjkaaGreat
namespace Go.Proofs.YtiplihojmfbjkaaGreat
open Go.RowKit
set_option maxHeartbeats 16000000
theorem zlx (l:List Pr) (g:FuncId) (caps:List (List D)) (f:Pr→Bool) (hg:∀ e∈l,CallsV Tryz.prog g (.dat (encPr e) :: caps.map fun q=>.one (.d (.pi q))) (.val (vB (f e)))) :
    CallsV Tryz.prog 220 [vL (l.map encPr),.one (.d (.fn g caps))] (.val (vI (idxF f l 0))):=by
  (refine zaa (Ty:=Ty) zad Tryz.func220 rfl rfl rfl fun w0 S0=>?_;refine enA ?_)
  have hlm:(l.map encPr).length=l.length:=List.length_map _
  refine zbm (t:=0) rfl rfl fun hlim=>?_
  repeat refine nx ?_
  refine zay (α:=Nat) (fun k=>[(0,vL (l.map encPr)),(1,.one (.d (.fn g caps))),(7,vI ((l.map encPr).length:Int)),(8,vI k)]) (fun _=>[]) (fun k=>k≤l.length∧idxF f l 0=idxF f (l.drop k) k) (fun k=>l.length - k) 0 ⟨Nat.zero_le _,rfl⟩ subA subA ?_
  intro k ⟨hk,hi⟩
  by_cases hlt:k < l.length
  · obtain ⟨q,hq⟩:∃ q,l[k]?=some q:=⟨_,List.getElem?_eq_getElem hlt⟩
    have hQ:=hg q (List.mem_of_getElem? hq)
    have hd:l.drop k=q :: l.drop (k+1):=by
      rw [List.drop_eq_getElem_cons hlt]
      rw [List.getElem?_eq_getElem hlt] at hq
      injection hq with hq
      rw [hq]
    rw [hd,zdE] at hi
    cases hf:f q with
    | true =>
      rw [hf] at hQ
      rw [hf,if_pos rfl] at hi
      repeat (first|refine uDc (hQ) ?_|refine nx ?_)
      exact zab (by rfl) (zaG hi.symm)
    | false =>
      rw [hf] at hQ
      rw [hf,if_neg (by decide)] at hi
      repeat (first|refine uDc (hQ) ?_|refine nx ?_)
      exact ⟨k+1,by omega,⟨hlt,hi⟩,subA,subA⟩
  · rw [List.drop_of_length_le (by omega),zfY] at hi
    repeat refine nx ?_
    exact zab (by rfl) (zaG hi.symm)
theorem zoa (p:Pr) (e:E):CallsV Tryz.prog 221 [.dat (encPr p),.one (.d (.pi (encE e)))] (.val (vB (eqL p.name e.name))):=by
  (refine zaa (Ty:=Ty) zad Tryz.func221 rfl rfl rfl fun w0 S0=>?_;refine enA ?_)
  repeat refine nx ?_
  exact zab (by rfl) rfl
theorem zhc {α:Type} (f:α→Bool):∀ (l:List α) (k:Nat),(l.find? f=none∧idxF f l k = -1)∨ ∃ i x,l[i]?=some x∧l.find? f=some x∧idxF f l k=((k+i:Nat):Int)
  | [],_=>.inl ⟨rfl,rfl⟩
  | y :: l,k=>by
    rw [zdE]
    cases h:f y with
    | true=>exact .inr ⟨0,y,rfl,by rw [List.find?_cons_of_pos h],by simp⟩
    | false =>
      rcases zhc f l (k+1) with ⟨h1,h2⟩ | ⟨i,x,h1,h2,h3⟩
      · exact .inl ⟨by rw [List.find?_cons_of_neg (by simp [h])];exact h1,by simpa using h2⟩
      · exact .inr ⟨i+1,x,by simpa using h1,by rw [List.find?_cons_of_neg (by simp [h])];exact h2,by simp only [Bool.false_eq_true,if_false,h3];omega⟩
theorem ze0 {α:Type}:∀ {l:List (Option α)} {rs:List α},allS l=some rs→l=rs.map some
  | [],rs,h=>by rw [allS] at h;injection h with h;subst h;rfl
  | none :: l,rs,h=>by rw [allS] at h;cases h
  | some x :: l,rs,h=>by
    rw [allS,Option.map_eq_some_iff] at h
    obtain ⟨rs',h1,rfl⟩:=h
    rw [ze0 h1];rfl
theorem zg0 {α:Type}:∀ {l:List (Option α)},allS l=none→ ∃ (K:Nat) (rs:List α),l[K]?=some none∧l.take K=rs.map some
  | [],h=>by rw [allS] at h;cases h
  | none :: l,_=>⟨0,[],rfl,rfl⟩
  | some x :: l,h=>by
    rw [allS,Option.map_eq_none_iff] at h
    obtain ⟨K,rs,h1,h2⟩:=zg0 h
    exact ⟨K+1,x :: rs,by simpa using h1,by rw [List.take_succ_cons,h2];rfl⟩
theorem zmp (ps:List Pr):∀ e:E,rightE e=true→ ∀ ov:Bool,match evalE ps e with
    | some r=>CallsM Tryz.prog 179 [.one (.po 1001 0),.dat (encE e)] (rkS (ps.map encPr) ov) (.dat (encV r.1)) (rkS (ps.map encPr) (ov || r.2))
    | none=>CallsP Tryz.prog 179 [.one (.po 1001 0),.dat (encE e)] (rkS (ps.map encPr) ov) pvWrong:=E.ind fun e ih he ov=>by
  rw [znw]
  rw [zg6] at he
  by_cases k1:e.kind=1
  · rw [if_pos k1]
    simp only [Bool.or_false]
    (refine zav (Ty:=Ty) zad Tryz.func179 rfl rfl rfl (by rfl) fun w0 S0 hp=>?_;refine enA ?_)
    repeat' (first|refine nx ?_|(refine nx2 ?_ ?_<;>intro hb))
    all_goals exact zbt (by rfl) rfl ghasA
  rw [if_neg k1] at he ⊢
  by_cases k2:e.kind=2
  · rw [if_pos k2]
    simp only [Bool.or_false]
    have hI:=zlx ps 221 [encE e] (fun p=>eqL p.name e.name) fun p _=>zoa p e
    rcases zhc (fun p:Pr=>eqL p.name e.name) ps 0 with ⟨h1,h2⟩ | ⟨i,p,h1,h2,h3⟩
    · rw [h2] at hI
      have hv:look1 ps e.name=zeroVal:=by unfold look1;rw [h1]
      rw [hv]
      (refine zav (Ty:=Ty) zad Tryz.func179 rfl rfl rfl (by rfl) fun w0 S0 hp=>?_;refine enA ?_)
      repeat' (first|refine nx ?_|(refine nx2 ?_ ?_<;>intro hb))
      refine uFz [(3,encE e)] ?_
      repeat' (first|refine uC (hI) ?_|refine nx ?_|(refine nx2 ?_ ?_<;>intro hb))
      all_goals exact zbt (by rfl) rfl ghasA
    · rw [h3,Nat.zero_add] at hI
      have hv:look1 ps e.name=p.val:=by unfold look1;rw [h2]
      rw [hv]
      have hil:i < ps.length:=(List.getElem?_eq_some_iff.1 h1).1
      have hlm:(ps.map encPr).length=ps.length:=List.length_map _
      (refine zav (Ty:=Ty) zad Tryz.func179 rfl rfl rfl (by rfl) fun w0 S0 hp=>?_;refine enA ?_)
      repeat' (first|refine nx ?_|(refine nx2 ?_ ?_<;>intro hb))
      refine uFz [(3,encE e)] ?_
      repeat' (first|refine uC (hI) ?_|refine nx ?_|(refine nx2 ?_ ?_<;>intro hb))
      all_goals exact zbt (by rfl) rfl ghasA
  rw [if_neg k2] at he ⊢
  by_cases k3:e.kind=3
  rotate_left
  · rw [if_neg k3] at he;cases he
  rw [if_pos k3] at he
  simp only [Bool.and_eq_true,decide_eq_true_eq] at he
  obtain ⟨⟨⟨_,hop⟩,hlen⟩,hall⟩:=he
  have hkid:∀ k∈e.kids,rightE k=true:=List.all_eq_true.1 hall
  have hlm:(e.kids.map encE).length=e.kids.length:=List.length_map _
  have hshort:e.kids.length≤1000:=by
    have:=zjX e.name hop
    rw [this] at hlen
    split at hlen<;>omega
  -- what the first kids are worth
  have key:∀ (n:Nat) (rs:List (Val × Bool)),n≤e.kids.length→(e.kids.map (evalE ps)).take n=rs.map some→rs.length=n∧ ∀ k q,k < n→e.kids[k]?=some q→ ∃ r,rs[k]?=some r∧evalE ps q=some r:=fun n rs hn h=>by
    have hl:=congrArg List.length h
    rw [List.length_take,List.length_map,List.length_map] at hl
    refine ⟨by omega,fun k q hk hq=>?_⟩
    have h1:((e.kids.map (evalE ps)).take n)[k]?=(rs.map some)[k]?:=by rw [h]
    rw [List.getElem?_take_of_lt hk,List.getElem?_map,List.getElem?_map,hq,Option.map_some] at h1
    cases hr:rs[k]? with
    | none=>rw [hr] at h1;cases h1
    | some r=>rw [hr,Option.map_some] at h1;injection h1 with h1;exact ⟨r,rfl,h1⟩
  have hst:∀ {rs:List (Val × Bool)} {k:Nat} {r:Val × Bool},rs[k]?=some r→((rs.take k).map (·.1)).map encV++[encV r.1]=((rs.take (k+1)).map (·.1)).map encV∧(ov || (rs.take (k+1)).any (·.2))=((ov || (rs.take k).any (·.2)) || r.2):=fun {rs k r} hr=>by
    rw [List.take_add_one,hr,Option.toList_some,List.map_append,List.map_append,List.any_append]
    refine ⟨rfl,?_⟩
    rw [List.any_cons,List.any_nil,Bool.or_false,Bool.or_assoc]
  cases hS:allS (e.kids.map (evalE ps)) with
  | none =>
    obtain ⟨K,rs,hK,htk⟩:=zg0 hS
    rw [List.getElem?_map,Option.map_eq_some_iff] at hK
    obtain ⟨qK,hqK,hnone⟩:=hK
    have hKl:K < e.kids.length:=(List.getElem?_eq_some_iff.1 hqK).1
    obtain ⟨hrl,hrs⟩:=key K rs (Nat.le_of_lt hKl) htk
    simp only
    (refine zaZ (Ty:=Ty) Tryz.func179 rfl rfl rfl fun w0 S0 hp=>?_;refine enA ?_)
    repeat' (first|refine nx ?_|(refine nx2 ?_ ?_<;>intro hb))
    refine uNil 6 100 28 4 ?_
    refine zay (α:=Nat) (fun k=>[(0,.one (.po 1001 0)),(3,.one (.po 3 0)),(6,.one (.own 100 (((rs.take k).map (·.1)).map encV))),(35,vL (e.kids.map encE)),(36,vI ((e.kids.map encE).length:Int)),(37,vI k)])
      (fun k=>[(1001,.obj 271 [.d (.sl (ps.map encPr)),.d (.v (.bool (ov || (rs.take k).any (·.2))))]),(100,.tok 28 4),(3,.box 31 (encE e))]) (fun k=>k≤K) (fun k=>K - k) 0 (Nat.zero_le _) subA (by simp only [List.take_zero,List.any_nil,Bool.or_false];exact subA) ?_
    intro k hk
    have hs:=zgZ ((rs.take k).map (·.1))
    have hlt:k < e.kids.length:=by omega
    obtain ⟨q,hq⟩:∃ q,e.kids[k]?=some q:=⟨_,List.getElem?_eq_getElem hlt⟩
    have hQ:=ih q (List.mem_of_getElem? hq) (hkid q (List.mem_of_getElem? hq)) (ov || (rs.take k).any (·.2))
    have hbd:(((rs.take k).map (·.1)).map encV).length≤1000:=by
      rw [List.length_map,List.length_map,List.length_take];omega
    by_cases hkK:k < K
    · obtain ⟨r,hr1,hr2⟩:=hrs k q hkK hq
      rw [hr2] at hQ
      simp only at hQ
      obtain ⟨hnx,hov⟩:=hst hr1
      rw [← hov] at hQ
      repeat' (first|refine uM (hQ) ?_|refine nx ?_|(refine nx2 ?_ ?_<;>intro hb))
      exact ⟨k+1,by omega,hkK,subA,subA⟩
    · obtain rfl:k=K:=by omega
      rw [hqK] at hq
      injection hq with hq
      subst hq
      rw [hnone] at hQ
      simp only at hQ
      repeat' (first|(refine zb6 3 179 rfl rfl ?_;simp only [List.take_succ_cons,List.take_zero])|refine nx ?_|(refine nx2 ?_ ?_<;>intro hb))
      exact uPan hQ fun _ _=>rfl
  | some rs =>
    have htk:(e.kids.map (evalE ps)).take e.kids.length=rs.map some:=by
      rw [ze0 hS,List.take_of_length_le (by rw [← ze0 hS];simp)]
    obtain ⟨hrl,hrs⟩:=key e.kids.length rs (Nat.le_refl _) htk
    have hO:=zpo (s:=e.name) (ps:=ps.map encPr) (ov:=ov || rs.any (·.2)) (l:=rs.map (·.1)) hop (by rw [List.length_map,hrl];exact hlen)
    simp only
    cases hr:opR e.name (rs.map (·.1)) with
    | none =>
      rw [hr] at hO
      simp only at hO
      simp only [Option.map_none]
      (refine zaZ (Ty:=Ty) Tryz.func179 rfl rfl rfl fun w0 S0 hp=>?_;refine enA ?_)
      repeat' (first|refine nx ?_|(refine nx2 ?_ ?_<;>intro hb))
      refine uNil 6 100 28 4 ?_
      refine zay (α:=Nat) (fun k=>[(0,.one (.po 1001 0)),(3,.one (.po 3 0)),(6,.one (.own 100 (((rs.take k).map (·.1)).map encV))),(35,vL (e.kids.map encE)),(36,vI ((e.kids.map encE).length:Int)),(37,vI k)])
        (fun k=>[(1001,.obj 271 [.d (.sl (ps.map encPr)),.d (.v (.bool (ov || (rs.take k).any (·.2))))]),(100,.tok 28 4),(3,.box 31 (encE e))]) (fun k=>k≤e.kids.length) (fun k=>e.kids.length - k) 0 (Nat.zero_le _) subA (by simp only [List.take_zero,List.any_nil,Bool.or_false];exact subA) ?_
      intro k hk
      have hs:=zgZ ((rs.take k).map (·.1))
      by_cases hlt:k < e.kids.length
      · obtain ⟨q,hq⟩:∃ q,e.kids[k]?=some q:=⟨_,List.getElem?_eq_getElem hlt⟩
        have hQ:=ih q (List.mem_of_getElem? hq) (hkid q (List.mem_of_getElem? hq)) (ov || (rs.take k).any (·.2))
        have hbd:(((rs.take k).map (·.1)).map encV).length≤1000:=by
          rw [List.length_map,List.length_map,List.length_take];omega
        obtain ⟨r1,hr1,hr2⟩:=hrs k q hlt hq
        rw [hr2] at hQ
        simp only at hQ
        obtain ⟨hnx,hov⟩:=hst hr1
        rw [← hov] at hQ
        repeat' (first|refine uM (hQ) ?_|refine nx ?_|(refine nx2 ?_ ?_<;>intro hb))
        exact ⟨k+1,by omega,hlt,subA,subA⟩
      · have hkl:k=e.kids.length:=by omega
        subst hkl
        rw [List.take_of_length_le (by omega)]
        repeat' (first|(refine zb6 4 222 rfl rfl ?_;simp only [List.take_succ_cons,List.take_zero])|refine nx ?_|(refine nx2 ?_ ?_<;>intro hb))
        exact uPan hO fun _ _=>rfl
    | some r =>
      rw [hr] at hO
      simp only at hO
      simp only [Option.map_some]
      rw [← Bool.or_assoc]
      (refine zav (Ty:=Ty) zad Tryz.func179 rfl rfl rfl (by rfl) fun w0 S0 hp=>?_;refine enA ?_)
      repeat' (first|refine nx ?_|(refine nx2 ?_ ?_<;>intro hb))
      refine uNil 6 100 28 4 ?_
      refine zay (α:=Nat) (fun k=>[(0,.one (.po 1001 0)),(3,.one (.po 3 0)),(4,.one (.po 4 0)),(6,.one (.own 100 (((rs.take k).map (·.1)).map encV))),(35,vL (e.kids.map encE)),(36,vI ((e.kids.map encE).length:Int)),(37,vI k)])
        (fun k=>[(1001,.obj 271 [.d (.sl (ps.map encPr)),.d (.v (.bool (ov || (rs.take k).any (·.2))))]),(100,.tok 28 4),(3,.box 31 (encE e)),(4,.box 28 [.v (.int .i64 0),.v (.int .i64 0),.v (.float .f64 0),.v (.string ⟨#[]⟩)])]) (fun k=>k≤e.kids.length) (fun k=>e.kids.length - k) 0 (Nat.zero_le _) subA (by simp only [List.take_zero,List.any_nil,Bool.or_false];exact subA) ?_
      intro k hk
      have hs:=zgZ ((rs.take k).map (·.1))
      by_cases hlt:k < e.kids.length
      · obtain ⟨q,hq⟩:∃ q,e.kids[k]?=some q:=⟨_,List.getElem?_eq_getElem hlt⟩
        have hQ:=ih q (List.mem_of_getElem? hq) (hkid q (List.mem_of_getElem? hq)) (ov || (rs.take k).any (·.2))
        have hbd:(((rs.take k).map (·.1)).map encV).length≤1000:=by
          rw [List.length_map,List.length_map,List.length_take];omega
        obtain ⟨r1,hr1,hr2⟩:=hrs k q hlt hq
        rw [hr2] at hQ
        simp only at hQ
        obtain ⟨hnx,hov⟩:=hst hr1
        rw [← hov] at hQ
        repeat' (first|refine uM (hQ) ?_|refine nx ?_|(refine nx2 ?_ ?_<;>intro hb))
        exact ⟨k+1,by omega,hlt,subA,subA⟩
      · have hkl:k=e.kids.length:=by omega
        subst hkl
        rw [List.take_of_length_le (by omega)]
        repeat' (first|refine uM (hO) ?_|refine nx ?_|(refine nx2 ?_ ?_<;>intro hb))
        exact zbt (by rfl) rfl ghasA
end Go.Proofs.YtiplihojmfbjkaaGreat
