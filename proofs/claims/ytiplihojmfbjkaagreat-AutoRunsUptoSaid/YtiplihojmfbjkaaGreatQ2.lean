/- A pattern's machine,in plain Lean: how it is laid,how large it grows. No program in sight. -/
import Derived.Test.YtiplihojmfbjkaaGreatN0
namespace Go.Proofs.YtiplihojmfbjkaaGreat
open Go.RowKit
structure Mv where
  src:Int
  dst:Int
  elem:Int
deriving DecidableEq
structure Mach where
  elems:List Pt
  moves:List Mv
  states:Int
abbrev Lay:=Int→Int→Mach→Mach
def mvM (s t e:Int) (m:Mach):Mach:=⟨m.elems,m.moves++[⟨s,t,e⟩],m.states⟩
def elM (p:Pt) (m:Mach):Mach:=⟨m.elems++[p],m.moves,m.states⟩
def stM (m:Mach):Mach:=⟨m.elems,m.moves,m.states+1⟩
def upM (x:Int × Mach) (k:Lay):Int × Mach:=(x.2.states,k x.1 x.2.states (stM x.2))
def seqM (ks:List Lay) (s t:Int) (m:Mach):Mach:=match ks.getLast? with
  | none=>m
  | some k=>k ((ks.dropLast.foldl upM (s,m)).1) t (ks.dropLast.foldl upM (s,m)).2
def layM:Pt→Lay:=foldP fun p ks s t m =>
  if p.kind=1∨p.kind=2 then elM p (mvM s t m.elems.length m)
  else if p.kind=3 then seqM ks s t m
  else if p.kind=4 then ks.foldl (fun m k=>k s t m) m
  else if p.kind=5 then match ks with
    | []=>m
    | k :: _=>if p.max=1 then k s t (mvM s t (-1) m) else mvM m.states t (-1) (k m.states m.states (mvM s m.states (-1) (stM m)))
  else m
def upP (x:Int × Mach) (k:Pt):Int × Mach:=upM x (layM k)
theorem zdP (p:Pt) (s t:Int) (m:Mach):layM p s t m=if p.kind=1∨p.kind=2 then elM p (mvM s t m.elems.length m)
  else if p.kind=3 then seqM (p.kids.map layM) s t m
  else if p.kind=4 then p.kids.foldl (fun m k=>layM k s t m) m
  else if p.kind=5 then match p.kids.map layM with
    | []=>m
    | k :: _=>if p.max=1 then k s t (mvM s t (-1) m) else mvM m.states t (-1) (k m.states m.states (mvM s m.states (-1) (stM m)))
  else m:=by
  unfold layM;rw [zaV,List.foldl_map]
theorem zcx {p:Pt} (h:p.kind=1∨p.kind=2) (s t:Int) (m:Mach):layM p s t m=elM p (mvM s t m.elems.length m):=by rw [zdP,if_pos h]
theorem zdj {p k:Pt} (h:p.kind=3) (hk:p.kids[p.kids.length - 1]?=some k) (s t:Int) (m:Mach):layM p s t m=layM k ((p.kids.take (p.kids.length - 1)).foldl upP (s,m)).1 t ((p.kids.take (p.kids.length - 1)).foldl upP (s,m)).2:=by
  rw [zdP,if_neg (by omega),if_pos h]
  have e:(p.kids.map layM).getLast?=some (layM k):=by
    rw [List.getLast?_eq_getElem?,List.length_map,List.getElem?_map,hk];rfl
  unfold seqM
  rw [e]
  have e2:(p.kids.map layM).dropLast=(p.kids.take (p.kids.length - 1)).map layM:=by rw [List.dropLast_eq_take,List.length_map,List.map_take]
  simp only [e2,List.foldl_map]
  rfl
theorem zde {p:Pt} (h:p.kind=4) (s t:Int) (m:Mach):layM p s t m=p.kids.foldl (fun m k=>layM k s t m) m:=by rw [zdP,if_neg (by omega),if_neg (by omega),if_pos h]
theorem zdh {p k:Pt} (h:p.kind=5) (hk:p.kids=[k]) (hm:p.max=1) (s t:Int) (m:Mach):layM p s t m=layM k s t (mvM s t (-1) m):=by
  rw [zdP,if_neg (by omega),if_neg (by omega),if_neg (by omega),if_pos h,hk,List.map_cons]
  dsimp only
  rw [if_pos hm]
theorem zct {p k:Pt} (h:p.kind=5) (hk:p.kids=[k]) (hm:p.max≠1) (s t:Int) (m:Mach):layM p s t m=mvM m.states t (-1) (layM k m.states m.states (mvM s m.states (-1) (stM m))):=by
  rw [zdP,if_neg (by omega),if_neg (by omega),if_neg (by omega),if_pos h,hk,List.map_cons]
  dsimp only
  rw [if_neg hm]
def shapeP:Pt→Bool:=foldP fun p ks=>(if p.kind=1∨p.kind=2 then p.kids.isEmpty else if p.kind=3∨p.kind=4 then !p.kids.isEmpty
  else p.kind==5&&p.kids.length==1&&(p.max==1 || p.max == -1))&&ks.all id
theorem zb2 (p:Pt):shapeP p=((if p.kind=1∨p.kind=2 then p.kids.isEmpty else if p.kind=3∨p.kind=4 then !p.kids.isEmpty
  else p.kind==5&&p.kids.length==1&&(p.max==1 || p.max == -1))&&p.kids.all shapeP):=by
  unfold shapeP;rw [zaV,List.all_map];rfl
theorem zbz {p:Pt} (h:shapeP p=true):∀ k∈p.kids,shapeP k=true:=by
  rw [zb2,Bool.and_eq_true,List.all_eq_true] at h;exact h.2
theorem zbQ {p:Pt} (h:shapeP p=true):((p.kind=1∨p.kind=2)∧p.kids=[])∨((p.kind=3∨p.kind=4)∧p.kids≠[])∨(p.kind=5∧(∃ k,p.kids=[k])∧(p.max=1∨p.max = -1)):=by
  rw [zb2,Bool.and_eq_true] at h
  obtain ⟨h,_⟩:=h
  split at h
  · rename_i hk;exact .inl ⟨hk,List.isEmpty_iff.1 h⟩
  · split at h
    · rename_i hk
      refine .inr (.inl ⟨hk,fun e=>?_⟩)
      rw [e] at h;cases h
    · simp only [Bool.and_eq_true,Bool.or_eq_true,beq_iff_eq] at h
      exact .inr (.inr ⟨h.1.1,List.length_eq_one_iff.1 h.1.2,h.2⟩)
theorem zju {k:Int} {l:List Pt} (hk:k=3∨k=4) (hne:l≠[]) (h:∀ x∈l,shapeP x=true):shapeP (groupP k l)=true:=by
  rw [zb2]
  unfold groupP
  dsimp only
  rw [if_neg (by omega),if_pos hk,Bool.and_eq_true,List.all_eq_true]
  exact ⟨by cases l with
    | nil=>exact absurd rfl hne
    | cons x l=>rfl,h⟩
theorem zcW {b:Pt} {m:Int} (hm:m=1∨m = -1) (h:shapeP b=true):shapeP (quantP b m)=true:=by
  rw [zb2]
  unfold quantP
  rcases hm with rfl|rfl<;>simp [h]
theorem zgv {k:Int} (hk:k=3∨k=4) {p:Pt} (h:shapeP p=true):openP k p≠[]∧ ∀ x∈openP k p,shapeP x=true:=by
  unfold openP
  split
  · rename_i e
    refine ⟨?_,zbz h⟩
    rcases zbQ h with ⟨h1,_⟩ | ⟨_,h2⟩ | ⟨h1,_⟩
    · omega
    · exact h2
    · omega
  · exact ⟨by simp,fun x hx=>by obtain rfl:=List.mem_singleton.1 hx;exact h⟩
theorem zeq {k:Int} (hk:k=3∨k=4) {l:List Pt} (hne:l≠[]) (h:∀ x∈l,shapeP x=true):shapeP (joinP k l)=true:=by
  have h1:l.flatMap (openP k)≠[]:=by
    cases l with
    | nil=>exact absurd rfl hne
    | cons x l =>
      rw [List.flatMap_cons]
      intro e
      exact (zgv hk (h x List.mem_cons_self)).1 (List.append_eq_nil_iff.1 e).1
  have h2:∀ y∈l.flatMap (openP k),shapeP y=true:=fun y hy=>by
    obtain ⟨x,hx,hxy⟩:=List.mem_flatMap.1 hy
    exact (zgv hk (h x hx)).2 y hxy
  rcases zbq k l with ⟨p,e1,e2⟩ | ⟨_,e2⟩
  · rw [e2];exact h2 p (by rw [e1];exact List.mem_cons_self)
  · rw [e2];exact zju hk h1 h2
theorem zgw {b:Pt} (h:shapeP b=true):∀ n:Nat,shapeP (tailP b n)=true
  | 0=>zcW (.inl rfl) h
  | n+1=>zcW (.inl rfl) (zeq (.inl rfl) (by simp) fun x hx=>by
    rcases List.mem_cons.1 hx with rfl|hx
    · exact h
    · obtain rfl:=List.mem_singleton.1 hx;exact zgw h n)
theorem zdq:∀ p:Pt,rightP p=true→shapeP (normal p)=true:=Pt.ind fun p ih h=>by
  have hr:=zaF h
  rcases za7 h with hk|hk|hk|hk|hk
  · rw [zaO (.inl hk),zb2,if_pos (.inl hk),zci h (.inl hk)];rfl
  · rw [zaO (.inr hk),zb2,if_pos (.inr hk),zci h (.inr hk)];rfl
  rotate_left 2
  · obtain ⟨⟨k,hkk,hkr⟩,h1,h2,h3⟩:=zaI h hk
    rw [zbk hk hkk]
    have hf:=ih k (by rw [hkk];exact List.mem_cons_self) hkr
    refine zeq (.inl rfl) (fun e=>?_) fun x hx=>?_
    · obtain ⟨e1,e2⟩:=List.append_eq_nil_iff.1 e
      rw [List.replicate_eq_nil_iff] at e1
      unfold moreP at e2
      split at e2
      · cases e2
      · split at e2
        · cases e2
        · omega
    · rcases List.mem_append.1 hx with hx|hx
      · rw [(List.mem_replicate.1 hx).2];exact hf
      · unfold moreP at hx
        split at hx
        · obtain rfl:=List.mem_singleton.1 hx;exact zcW (.inr rfl) hf
        · split at hx
          · obtain rfl:=List.mem_singleton.1 hx;exact zgw hf _
          · cases hx
  all_goals
    rw [za1 (by omega)]
    refine zeq (by omega) (by simpa using (zcl h (by omega)).1) fun x hx=>?_
    obtain ⟨y,hy,rfl⟩:=List.mem_map.1 hx
    exact ih y hy (hr y hy)
structure GrowM (n:Nat) (m m':Mach):Prop where
  el:m'.elems.length≤m.elems.length+n
  mv:m'.moves.length≤m.moves.length+2 * n
  st:m.states≤m'.states∧m'.states≤m.states+n
theorem zdl:∀ (p:Pt) (s t:Int) (m:Mach),shapeP p=true→GrowM (nodesP p) m (layM p s t m)∧(layM p s t m).states+1≤m.states+nodesP p:=Pt.ind fun p ih s t m hs=>by
  have hsk:=zbz hs
  have hnp:=zbl p
  have hup:∀ (l:List Pt),(∀ k∈l,k∈p.kids)→ ∀ (x:Int × Mach),GrowM (l.map nodesP).sum x.2 (l.foldl upP x).2:=by
    intro l
    induction l with
    | nil=>intro _ x;exact ⟨Nat.le_refl _,Nat.le_refl _,Int.le_refl _,by simp⟩
    | cons k l ihl =>
      intro hl x
      rw [List.foldl_cons,List.map_cons,List.sum_cons]
      obtain ⟨⟨a1,a2,a3,_⟩,a4⟩:=ih k (hl k List.mem_cons_self) x.1 x.2.states (stM x.2) (hsk k (hl k List.mem_cons_self))
      obtain ⟨b1,b2,b3,b4⟩:=ihl (fun y hy=>hl y (List.mem_cons_of_mem _ hy)) (upP x k)
      simp only [upP,upM] at b1 b2 b3 b4
      simp only [stM] at a1 a2 a3 a4
      simp only [upP,upM,stM] at b1 b2 b3 b4 ⊢
      exact ⟨by omega,by omega,by omega,by omega⟩
  have halt:∀ (l:List Pt),(∀ k∈l,k∈p.kids)→ ∀ (m:Mach),GrowM (l.map nodesP).sum m (l.foldl (fun m k=>layM k s t m) m):=by
    intro l
    induction l with
    | nil=>intro _ x;exact ⟨Nat.le_refl _,Nat.le_refl _,Int.le_refl _,by simp⟩
    | cons k l ihl =>
      intro hl x
      rw [List.foldl_cons,List.map_cons,List.sum_cons]
      obtain ⟨⟨a1,a2,a3,_⟩,a4⟩:=ih k (hl k List.mem_cons_self) s t x (hsk k (hl k List.mem_cons_self))
      obtain ⟨b1,b2,b3,b4⟩:=ihl (fun y hy=>hl y (List.mem_cons_of_mem _ hy)) (layM k s t x)
      exact ⟨by omega,by omega,by omega,by omega⟩
  rcases zbQ hs with ⟨hk,hk0⟩ | ⟨hk,hne⟩ | ⟨hk,⟨k,hkk⟩,hm⟩
  · rw [zcx hk,hnp,hk0]
    simp only [elM,mvM,List.map_nil,List.sum_nil,Nat.add_zero]
    exact ⟨⟨by simp,by simp,by refine ⟨Int.le_refl _,?_⟩;show m.states≤m.states+_;omega⟩,by show m.states+1≤m.states+_;omega⟩
  · by_cases h3:p.kind=3
    · have hlen:0 < p.kids.length:=List.length_pos_iff.2 hne
      obtain ⟨k,hkl⟩:∃ k,p.kids[p.kids.length - 1]?=some k:=⟨_,List.getElem?_eq_getElem (by omega)⟩
      rw [zdj h3 hkl]
      have h1:=hup (p.kids.take (p.kids.length - 1)) (fun y hy=>List.mem_of_mem_take hy) (s,m)
      have hm:=List.mem_of_getElem? hkl
      obtain ⟨⟨a1,a2,a3,_⟩,a4⟩:=ih k hm ((p.kids.take (p.kids.length - 1)).foldl upP (s,m)).1 t ((p.kids.take (p.kids.length - 1)).foldl upP (s,m)).2 (hsk k hm)
      obtain ⟨b1,b2,b3,b4⟩:=h1
      have hsum:(p.kids.map nodesP).sum=((p.kids.take (p.kids.length - 1)).map nodesP).sum+nodesP k:=by
        conv=>lhs;rw [← List.take_append_drop (p.kids.length - 1) p.kids]
        rw [List.map_append,List.sum_append]
        congr 1
        rw [List.drop_eq_getElem_cons (by omega),(List.getElem?_eq_some_iff.1 hkl).2,List.drop_eq_nil_of_le (by omega)]
        simp
      simp only at b1 b2 b3 b4
      exact ⟨⟨by omega,by omega,by omega,by omega⟩,by omega⟩
    · rw [zde (by omega)]
      obtain ⟨b1,b2,b3,b4⟩:=halt p.kids (fun _ h=>h) m
      exact ⟨⟨by omega,by omega,by omega,by omega⟩,by omega⟩
  · have hnk:nodesP p=1+nodesP k:=by rw [hnp,hkk];simp
    have hmem:k∈p.kids:=by rw [hkk];exact List.mem_cons_self
    rcases hm with hm|hm
    · rw [zdh hk hkk hm]
      obtain ⟨⟨a1,a2,a3,_⟩,a4⟩:=ih k hmem s t (mvM s t (-1) m) (hsk k hmem)
      simp only [mvM,List.length_append,List.length_singleton] at a1 a2 a3 a4 ⊢
      exact ⟨⟨by omega,by omega,by omega,by omega⟩,by omega⟩
    · rw [zct hk hkk (by omega)]
      obtain ⟨⟨a1,a2,a3,_⟩,a4⟩:=ih k hmem m.states m.states (mvM s m.states (-1) (stM m)) (hsk k hmem)
      simp only [mvM,stM,List.length_append,List.length_singleton] at a1 a2 a3 a4
      refine ⟨⟨?_,?_,?_,?_⟩,?_⟩<;>simp only [mvM,stM,List.length_append,List.length_singleton]<;>omega
def fits (n:Nat) (m:Mach):Prop:=m.elems.length+n≤20000∧m.moves.length+2 * n≤40000∧0≤m.states∧m.states+n≤20002
theorem zcK {n n':Nat} {m:Mach} (h:fits n m) (hn:n'≤n):fits n' m:=by unfold fits at *;omega
theorem znv {n:Nat} {p:Pt} {s t:Int} {m:Mach} (hs:shapeP p=true) (h:fits (nodesP p+n) m):fits n (layM p s t m):=by
  obtain ⟨⟨a1,a2,a3,a4⟩,_⟩:=zdl p s t m hs
  unfold fits at *;omega
theorem zog {n:Nat} {k:Pt} {x:Int × Mach} (hs:shapeP k=true) (h:fits (nodesP k+n) x.2):fits n (upP x k).2:=by
  obtain ⟨⟨a1,a2,a3,a4⟩,a5⟩:=zdl k x.1 x.2.states (stM x.2) hs
  simp only [upP,upM,stM] at *
  unfold fits at *;omega
theorem znf (l:List Pt) (hs:∀ k∈l,shapeP k=true):∀ (n:Nat) (x:Int × Mach),fits ((l.map nodesP).sum+n) x.2→fits n (l.foldl upP x).2:=by
  induction l with
  | nil=>intro n x h;simpa using h
  | cons k l ih =>
    intro n x h
    rw [List.foldl_cons]
    refine ih (fun y hy=>hs y (List.mem_cons_of_mem _ hy)) n _ (zog (hs k List.mem_cons_self) ?_)
    rw [List.map_cons,List.sum_cons] at h
    rwa [← Nat.add_assoc]
theorem zld {s t:Int} (l:List Pt) (hs:∀ k∈l,shapeP k=true):∀ (n:Nat) (m:Mach),fits ((l.map nodesP).sum+n) m→fits n (l.foldl (fun m k=>layM k s t m) m):=by
  induction l with
  | nil=>intro n x h;simpa using h
  | cons k l ih =>
    intro n x h
    rw [List.foldl_cons]
    refine ih (fun y hy=>hs y (List.mem_cons_of_mem _ hy)) n _ (znv (hs k List.mem_cons_self) ?_)
    rw [List.map_cons,List.sum_cons] at h
    rwa [← Nat.add_assoc]
theorem zht {f:Pt→Nat}:∀ {l:List Pt} {i:Nat} {q:Pt},l[i]?=some q→((l.take i).map f).sum+f q≤(l.map f).sum
  | x :: l,0,q,h=>by
    simp only [List.getElem?_cons_zero,Option.some.injEq] at h
    subst h
    simp
  | x :: l,i+1,q,h=>by
    have:=zht (f:=f) (l:=l) (i:=i) (q:=q) (by simpa using h)
    simp only [List.take_succ_cons,List.map_cons,List.sum_cons];omega
theorem znT {n:Nat} {m:Mach} (h:fits (n+1) m):fits n (stM m):=by
  obtain ⟨h1,h2,h3,h4⟩:=h
  exact ⟨by show m.elems.length+n≤_;omega,by show m.moves.length+2 * n≤_;omega,by show 0≤m.states+1;omega,by show m.states+1+n≤_;omega⟩
theorem zn6 {n:Nat} {m:Mach} {s t e:Int} (h:fits (n+1) m):fits n (mvM s t e m):=by
  obtain ⟨h1,h2,h3,h4⟩:=h
  exact ⟨by show m.elems.length+n≤_;omega,by show (m.moves++_).length+2 * n≤_;rw [List.length_append,List.length_singleton];omega,h3,by show m.states+n≤_;omega⟩
theorem zgI {p q:Pt} {s t:Int} {m:Mach} (hs:shapeP p=true) {i:Nat} (hq:p.kids[i]?=some q) (h:fits (nodesP p) m):fits (nodesP q+1) ((p.kids.take i).foldl upP (s,m)).2∧fits (nodesP q+1) ((p.kids.take i).foldl (fun m k=>layM k s t m) m):=by
  have h1:=zht (f:=nodesP) hq
  have h2:=zbl p
  have hk:∀ k∈p.kids.take i,shapeP k=true:=fun k hk=>zbz hs k (List.mem_of_mem_take hk)
  exact ⟨znf _ hk _ (s,m) (zcK h (by omega)),zld _ hk _ m (zcK h (by omega))⟩
def buildM (p:Pt):Mach:=layM p 0 1 ⟨[],[],2⟩
end Go.Proofs.YtiplihojmfbjkaaGreat
namespace Go.Proofs.YtiplihojmfbjkaaGreat
inductive Rch (L:List Mv) (st:Mv→Bool) (s:Nat→Bool):Nat→Prop
  | base {i:Nat}:s i=true→Rch L st s i
  | step {v:Mv}:v∈L→st v=true→Rch L st s v.src.toNat→Rch L st s v.dst.toNat
def hasB (l:List Bool) (i:Nat):Bool:=l[i]?.getD false
open Classical in
noncomputable def closeB (L:List Mv) (st:Mv→Bool) (s:Nat→Bool) (n:Nat):List Bool:=(List.range n).map fun i=>decide (Rch L st s i)
abbrev Qs:=List Bool × List Int
def enterQ (q:Qs) (x:Int):Qs:=if hasB q.1 x.toNat=true then q else (q.1.set x.toNat true,q.2++[x])
def stepQ (st:Mv→Bool) (f:Int) (q:Qs) (v:Mv):Qs:=if v.src=f then (if st v=true then enterQ q v.dst else q) else q
def baseQ (s:Nat→Bool) (q:Qs) (j:Nat):Qs:=if s j=true then enterQ q j else q
def initQ (s:Nat→Bool) (n i:Nat):Qs:=(List.range i).foldl (baseQ s) (List.replicate n false,[])
theorem zhd (s:Nat→Bool) (n i:Nat):initQ s n (i+1)=baseQ s (initQ s n i) i:=by
  unfold initQ
  rw [List.range_succ,List.foldl_append];rfl
theorem zh7 (l:List Bool) (k i:Nat):hasB (l.set k true) i=if k=i∧k < l.length then true else hasB l i:=by
  unfold hasB
  rw [List.getElem?_set]
  by_cases h:k=i
  · subst h
    by_cases h2:k < l.length
    · simp [h2]
    · simp [h2]
  · simp [h]
theorem zcN {l:List Bool} {i:Nat} {b:Bool} (h:l[i]?=some b):hasB l i=b:=by unfold hasB;rw [h];rfl
theorem zfV (n i:Nat):hasB (List.replicate n false) i=false:=by
  unfold hasB
  rw [List.getElem?_replicate]
  split<;>rfl
def trues (l:List Bool):Nat:=l.count true
def falses (l:List Bool):Nat:=l.count false
theorem ziG (l:List Bool):trues l≤l.length:=List.count_le_length
theorem zjZ {l:List Bool} {k:Nat} (hk:k < l.length) (h:hasB l k=false):trues (l.set k true)=trues l+1∧falses (l.set k true)+1=falses l:=by
  have e:l[k]=false:=by
    unfold hasB at h
    rw [List.getElem?_eq_getElem hk] at h
    exact h
  have hpos:0 < l.count false:=List.count_pos_iff.2 (e ▸ List.getElem_mem hk)
  unfold trues falses
  rw [List.count_set hk,List.count_set hk,e]
  simp
  omega
theorem zl7 (q:Qs) (x:Int):(enterQ q x).1.length=q.1.length:=by
  unfold enterQ;split
  · rfl
  · simp
theorem zlN {q:Qs} {x:Int} (h:x.toNat < q.1.length):falses (enterQ q x).1+(enterQ q x).2.length=falses q.1+q.2.length:=by
  unfold enterQ
  split
  · rfl
  · rename_i hb
    have:=(zjZ h (by simpa using hb)).2
    simp only [List.length_append,List.length_cons,List.length_nil]
    omega
structure QInv (L:List Mv) (st:Mv→Bool) (s:Nat→Bool) (n:Nat) (pend:Mv→Prop) (q:Qs):Prop where
  len:q.1.length=n
  todo:∀ x∈q.2,0≤x∧x < n∧hasB q.1 x.toNat=true
  sound:∀ i,hasB q.1 i=true→Rch L st s i
  closed:∀ v∈L,st v=true→hasB q.1 v.src.toNat=true→v.src∈q.2∨hasB q.1 v.dst.toNat=true∨pend v
def inR (L:List Mv) (n:Nat):Prop:=∀ v∈L,0≤v.src∧v.src < n∧0≤v.dst∧v.dst < n
variable {L:List Mv} {st:Mv→Bool} {s:Nat→Bool} {n:Nat} {pend:Mv→Prop} {q:Qs}
theorem QInv.enter (hL:inR L n) (h:QInv L st s n pend q) {x:Int} (h0:0≤x) (hx:x < n) (hr:Rch L st s x.toNat):QInv L st s n pend (enterQ q x)∧hasB (enterQ q x).1 x.toNat=true∧ ∀ i,hasB q.1 i=true→hasB (enterQ q x).1 i=true:=by
  by_cases hb:hasB q.1 x.toNat=true
  · have e:enterQ q x=q:=if_pos hb
    rw [e]
    exact ⟨h,hb,fun _ hi=>hi⟩
  · have e:enterQ q x=(q.1.set x.toNat true,q.2++[x]):=if_neg hb
    have hlt:x.toNat < q.1.length:=by rw [h.len];omega
    have hset:∀ i,hasB (q.1.set x.toNat true) i=if x.toNat=i∧x.toNat < q.1.length then true else hasB q.1 i:=zh7 _ _
    have mono:∀ i,hasB q.1 i=true→hasB (q.1.set x.toNat true) i=true:=fun i hi=>by rw [hset];split<;>simp_all
    have here:hasB (q.1.set x.toNat true) x.toNat=true:=by rw [hset,if_pos ⟨rfl,hlt⟩]
    rw [e]
    refine ⟨⟨by simp [h.len],fun y hy=>?_,fun i hi=>?_,fun v hv hs hi=>?_⟩,here,mono⟩
    · rcases List.mem_append.1 hy with hy|hy
      · obtain ⟨a,b,c⟩:=h.todo y hy;exact ⟨a,b,mono _ c⟩
      · rw [List.mem_singleton] at hy;subst hy;exact ⟨h0,hx,here⟩
    · have hi:hasB (q.1.set x.toNat true) i=true:=hi
      rw [hset] at hi
      split at hi
      · rename_i hc;rw [← hc.1];exact hr
      · exact h.sound i hi
    · have hi:hasB (q.1.set x.toNat true) v.src.toNat=true:=hi
      rw [hset] at hi
      split at hi
      · rename_i hc
        have h1:=(hL v hv).1
        exact .inl (List.mem_append.2 (.inr (by rw [List.mem_singleton];omega)))
      · rcases h.closed v hv hs hi with h1|h1|h1
        · exact .inl (List.mem_append.2 (.inl h1))
        · exact .inr (.inl (mono _ h1))
        · exact .inr (.inr h1)
theorem QInv.weaken {p2:Mv→Prop} (h:QInv L st s n pend q) (hp:∀ v∈L,st v=true→hasB q.1 v.src.toNat=true→pend v→v.src∈q.2∨hasB q.1 v.dst.toNat=true∨p2 v):QInv L st s n p2 q :=
  ⟨h.len,h.todo,h.sound,fun v hv hs hi=>by
    rcases h.closed v hv hs hi with h1|h1|h1
    · exact .inl h1
    · exact .inr (.inl h1)
    · exact hp v hv hs hi h1⟩
theorem QInv.fold (hL:inR L n) (f:Int):∀ (M:List Mv) (q:Qs),(∀ v∈M,v∈L)→hasB q.1 f.toNat=true→QInv L st s n (fun v=>v.src=f∧v∈M) q→
    QInv L st s n (fun _=>False) (M.foldl (stepQ st f) q)∧falses (M.foldl (stepQ st f) q).1+(M.foldl (stepQ st f) q).2.length=falses q.1+q.2.length∧ ∀ i,hasB q.1 i=true→hasB (M.foldl (stepQ st f) q).1 i=true
  | [],q,_,_,h=>⟨h.weaken fun v _ _ _ hp=>absurd hp.2 List.not_mem_nil,rfl,fun _ hi=>hi⟩
  | m :: M,q,hM,hf,h=>by
    have hm:=hM m List.mem_cons_self
    have hMM:∀ v∈M,v∈L:=fun v hv=>hM v (List.mem_cons_of_mem _ hv)
    rw [List.foldl_cons]
    by_cases hc:m.src=f∧st m=true
    · have e:stepQ st f q m=enterQ q m.dst:=by unfold stepQ;rw [if_pos hc.1,if_pos hc.2]
      obtain ⟨b1,b2,b3,b4⟩:=hL m hm
      have hr:Rch L st s m.dst.toNat:=.step hm hc.2 (h.sound _ (by rw [hc.1];exact hf))
      obtain ⟨h1,h2,h3⟩:=h.enter hL b3 b4 hr
      rw [e]
      have h4:QInv L st s n (fun v=>v.src=f∧v∈M) (enterQ q m.dst):=h1.weaken fun v hv hs hi hp=>by
        rcases List.mem_cons.1 hp.2 with hq|hq
        · subst hq;exact .inr (.inl h2)
        · exact .inr (.inr ⟨hp.1,hq⟩)
      obtain ⟨h5,h6,h7⟩:=QInv.fold hL f M _ hMM (h3 _ hf) h4
      exact ⟨h5,h6.trans (zlN (by rw [h.len];omega)),fun i hi=>h7 i (h3 i hi)⟩
    · have e:stepQ st f q m=q:=by
        unfold stepQ
        split
        · rename_i h1
          rw [if_neg fun h2=>hc ⟨h1,h2⟩]
        · rfl
      rw [e]
      exact QInv.fold hL f M q hMM hf (h.weaken fun v hv hs hi hp=>by
        rcases List.mem_cons.1 hp.2 with hq|hq
        · subst hq;exact absurd ⟨hp.1,hs⟩ hc
        · exact .inr (.inr ⟨hp.1,hq⟩))
theorem QInv.pop (hL:inR L n) {out:List Bool} {f:Int} {r:List Int} (h:QInv L st s n (fun _=>False) (out,f :: r)) :
    QInv L st s n (fun _=>False) (L.foldl (stepQ st f) (out,r))∧falses (L.foldl (stepQ st f) (out,r)).1+(L.foldl (stepQ st f) (out,r)).2.length=falses out+r.length∧ ∀ i,hasB out i=true→hasB (L.foldl (stepQ st f) (out,r)).1 i=true:=by
  refine QInv.fold hL f L (out,r) (fun _ hv=>hv) (h.todo f List.mem_cons_self).2.2 ⟨h.len,fun x hx=>h.todo x (List.mem_cons_of_mem _ hx),h.sound,fun v hv hs hi=>?_⟩
  rcases h.closed v hv hs hi with h1|h1|h1
  · rcases List.mem_cons.1 h1 with h2|h2
    · exact .inr (.inr ⟨h2,hv⟩)
    · exact .inl h2
  · exact .inr (.inl h1)
  · exact h1.elim
theorem QInv.none (n:Nat):QInv L st s n pend (List.replicate n false,[]) :=
  ⟨by simp,fun x hx=>absurd hx List.not_mem_nil,fun i hi=>(by rw [zfV] at hi;cases hi),fun v _ _ hi=>(by rw [zfV] at hi;cases hi)⟩
theorem ziT (hL:inR L n):∀ i,i≤n→QInv L st s n (fun _=>False) (initQ s n i)∧ ∀ j,j < i→s j=true→hasB (initQ s n i).1 j=true
  | 0,_=>⟨QInv.none n,fun j hj=>absurd hj (Nat.not_lt_zero _)⟩
  | i+1,hi=>by
    obtain ⟨h1,h2⟩:=ziT hL i (by omega)
    rw [zhd]
    unfold baseQ
    split
    · rename_i hs
      obtain ⟨h3,h4,h5⟩:=h1.enter hL (x:=i) (by omega) (by omega) (.base (by simpa using hs))
      refine ⟨h3,fun j hj hsj=>?_⟩
      by_cases e:j=i
      · subst e;simpa using h4
      · exact h5 j (h2 j (by omega) hsj)
    · rename_i hs
      refine ⟨h1,fun j hj hsj=>h2 j ?_ hsj⟩
      by_cases e:j=i
      · subst e;exact absurd hsj hs
      · omega
theorem zhb {i:Nat} (h:i < n):(closeB L st s n)[i]?=some (@decide (Rch L st s i) (Classical.propDecidable _)):=by
  unfold closeB
  rw [List.getElem?_map,List.getElem?_range h];rfl
theorem ze7:(closeB L st s n).length=n:=by simp [closeB]
theorem zb3 {i:Nat} (h:i < n):hasB (closeB L st s n) i=true↔Rch L st s i:=by
  rw [zcN (zhb h)]
  simp
open Classical in
theorem zkG (hL:inR L n) {out:List Bool} (h:QInv L st s n (fun _=>False) (out,[])) (hb:∀ i,i < n→s i=true→hasB out i=true):out=closeB L st s n:=by
  have key:∀ i,Rch L st s i→i < n→hasB out i=true:=fun i hr=>by
    induction hr with
    | base hs=>intro hi;exact hb _ hi hs
    | @step v hv hs _ ih =>
      intro _
      obtain ⟨b1,b2,b3,b4⟩:=hL v hv
      rcases h.closed v hv hs (ih (by omega)) with h1|h1|h1
      · exact absurd h1 List.not_mem_nil
      · exact h1
      · exact h1.elim
  have hl:out.length=n:=h.len
  refine List.ext_getElem? fun i=>?_
  by_cases hi:i < n
  · rw [zhb hi,List.getElem?_eq_getElem (by omega)]
    have e:hasB out i=out[i]:=zcN (List.getElem?_eq_getElem (by omega))
    congr 1
    rw [← e,Bool.eq_iff_iff,decide_eq_true_iff]
    exact ⟨fun hh=>h.sound i hh,fun hh=>key i hh hi⟩
  · rw [List.getElem?_eq_none (by omega),List.getElem?_eq_none (by rw [ze7];omega)]
theorem ziS {i:Nat} (hi:i < n) (h:s i=true):hasB (closeB L st s n) i=true:=(zb3 hi).2 (.base h)
def goStep (g:Mv→Bool) (s:Nat→Bool) (out:List Bool) (v:Mv):List Bool:=if s v.src.toNat=true then (if g v=true then out.set v.dst.toNat true else out) else out
def goF (L:List Mv) (g:Mv→Bool) (s:Nat→Bool) (n:Nat):List Bool:=L.foldl (goStep g s) (List.replicate n false)
theorem zgs (g:Mv→Bool) (s:Nat→Bool) (out:List Bool) (v:Mv):(goStep g s out v).length=out.length:=by
  unfold goStep
  split
  · split
    · simp
    · rfl
  · rfl
theorem zgf (g:Mv→Bool) (s:Nat→Bool):∀ (M:List Mv) (out:List Bool),(M.foldl (goStep g s) out).length=out.length
  | [],_=>rfl
  | v :: M,out=>by rw [List.foldl_cons,zgf g s M,zgs]
end Go.Proofs.YtiplihojmfbjkaaGreat
