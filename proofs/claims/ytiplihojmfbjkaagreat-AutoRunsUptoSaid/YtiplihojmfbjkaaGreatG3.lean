/- A machine's sets along a path have its last state just where there are runs,in plain Lean. No program in sight. -/
import Derived.Test.YtiplihojmfbjkaaGreatQ2
import Derived.Test.YtiplihojmfbjkaaGreatQ7
import Derived.Test.YtiplihojmfbjkaaGreatMK
import Derived.Test.YtiplihojmfbjkaaGreatQE
import Derived.Test.YtiplihojmfbjkaaGreatQD
import Derived.Shelf.SortM.Plain
import Derived.Shelf.SortM.SortNone
import Derived.Test.YtiplihojmfbjkaaGreatWI
import Derived.Shelf.Slices.In.CompactS
import Derived.Sort.EveryDepth
import Derived.Test.YtiplihojmfbjkaaGreatWM
namespace Go.Proofs.YtiplihojmfbjkaaGreat
open Go.RowKit
theorem zgD (g:Mv→Bool) (s:Nat→Bool) (n:Nat):∀ (M:List Mv) (out:List Bool),out.length=n→(∀ v∈M,v.dst.toNat < n)→ ∀ i,hasB (M.foldl (goStep g s) out) i=true↔hasB out i=true∨ ∃ v∈M,s v.src.toNat=true∧g v=true∧v.dst.toNat=i
  | [],out,_,_,i=>by simp
  | v :: M,out,hl,hd,i=>by
    rw [List.foldl_cons,zgD g s n M _ (by rw [zgs,hl]) (fun x hx=>hd x (List.mem_cons_of_mem _ hx)) i]
    have hv:=hd v List.mem_cons_self
    have h1:hasB (goStep g s out v) i=true↔hasB out i=true∨(s v.src.toNat=true∧g v=true∧v.dst.toNat=i):=by
      unfold goStep
      by_cases hs:s v.src.toNat=true
      · rw [if_pos hs]
        by_cases hg:g v=true
        · rw [if_pos hg,zh7]
          by_cases e:v.dst.toNat=i
          · rw [if_pos ⟨e,by rw [hl];exact hv⟩]
            exact ⟨fun _=>.inr ⟨hs,hg,e⟩,fun _=>rfl⟩
          · rw [if_neg (fun q=>e q.1)]
            exact ⟨.inl,fun h=>h.elim id fun q=>absurd q.2.2 e⟩
        · rw [if_neg hg]
          exact ⟨.inl,fun h=>h.elim id fun q=>absurd q.2.1 hg⟩
      · rw [if_neg hs]
        exact ⟨.inl,fun h=>h.elim id fun q=>absurd q.1 hs⟩
    rw [h1]
    constructor
    · rintro ((h|h) | ⟨x,hx,h⟩)
      · exact .inl h
      · exact .inr ⟨v,List.mem_cons_self,h⟩
      · exact .inr ⟨x,List.mem_cons_of_mem _ hx,h⟩
    · rintro (h | ⟨x,hx,h⟩)
      · exact .inl (.inl h)
      · rcases List.mem_cons.1 hx with rfl|hx
        · exact .inl (.inr h)
        · exact .inr ⟨x,hx,h⟩
theorem zjY {L:List Mv} {g:Mv→Bool} {s:Nat→Bool} {n:Nat} (hL:inR L n) (i:Nat):hasB (goF L g s n) i=true↔∃ v∈L,s v.src.toNat=true∧g v=true∧v.dst.toNat=i:=by
  unfold goF
  rw [zgD g s n L _ (by simp) (fun v hv=>by have:=hL v hv;omega) i,zfV]
  simp
noncomputable def Rn.sets (R:Rn) (n:Nat):Nat→List Bool
  | 0=>closeB R.mv (R.st 0) (hasB [true]) n
  | i+1=>closeB R.mv (R.st (i+1)) (hasB (goF R.mv (R.go i) (hasB (R.sets n i)) n)) n
theorem Rn.sets_len (R:Rn) (n:Nat):∀ i,(R.sets n i).length=n
  | 0=>ze7
  | _+1=>ze7
theorem Rn.tot_pos (R:Rn) (a b:Int→Nat) (s:Int) (i:Nat):∀ l:List Mv,0 < R.tot a b s i l↔∃ v∈l,v.src=s∧0 < R.part a b i v
  | []=>by simp [Rn.tot]
  | v :: l=>by
    have h1:R.tot a b s i (v :: l)=(if v.src=s then R.part a b i v else 0)+R.tot a b s i l:=by unfold Rn.tot;rw [List.map_cons,List.sum_cons]
    have h2:=R.tot_pos a b s i l
    rw [h1]
    constructor
    · intro h
      by_cases h3:0 < R.tot a b s i l
      · obtain ⟨x,hx,h4⟩:=h2.1 h3
        exact ⟨x,List.mem_cons_of_mem _ hx,h4⟩
      · by_cases e:v.src=s
        · rw [if_pos e] at h
          exact ⟨v,List.mem_cons_self,e,by omega⟩
        · rw [if_neg e] at h;omega
    · rintro ⟨x,hx,e,h⟩
      rcases List.mem_cons.1 hx with rfl|hx
      · rw [if_pos e];omega
      · have:=h2.2 ⟨x,hx,e,h⟩;omega
section
variable {R:Rn} {rk:Int→Nat} {n:Nat}
theorem Rn.Ok.pos (h:R.Ok rk n) {s:Int} (h0:0≤s) (h1:s < n) {i:Nat} (hp:0 < R.all n s i):(s=1∧i=R.L)∨ ∃ v∈R.mv,v.src=s∧((R.st i v=true∧0 < R.all n v.dst i)∨(i < R.L∧R.go i v=true∧0 < R.all n v.dst (i+1))):=by
  rw [h.all_eq h0 h1] at hp
  by_cases hb:s=1∧i=R.L
  · exact .inl hb
  · unfold Rn.base at hp
    rw [if_neg hb,Nat.zero_add,R.tot_pos] at hp
    obtain ⟨v,hv,e,h2⟩:=hp
    refine .inr ⟨v,hv,e,?_⟩
    unfold Rn.part at h2
    split at h2
    · rename_i hs;exact .inl ⟨hs,h2⟩
    · split at h2
      · rename_i hg;exact .inr ⟨hg.1,hg.2,h2⟩
      · omega
theorem Rn.Ok.pos_stay (h:R.Ok rk n) {v:Mv} (hv:v∈R.mv) {i:Nat} (hs:R.st i v=true) (hp:0 < R.all n v.dst i):0 < R.all n v.src i:=by
  obtain ⟨h0,h1,_,_⟩:=h.dom v hv
  rw [h.all_eq h0 h1]
  refine Nat.lt_of_lt_of_le ?_ (Nat.le_add_left _ _)
  rw [R.tot_pos]
  refine ⟨v,hv,rfl,?_⟩
  unfold Rn.part
  rw [if_pos hs];exact hp
theorem Rn.Ok.pos_go (h:R.Ok rk n) {v:Mv} (hv:v∈R.mv) {i:Nat} (hi:i < R.L) (hs:R.st i v=false) (hg:R.go i v=true) (hp:0 < R.all n v.dst (i+1)):0 < R.all n v.src i:=by
  obtain ⟨h0,h1,_,_⟩:=h.dom v hv
  rw [h.all_eq h0 h1]
  refine Nat.lt_of_lt_of_le ?_ (Nat.le_add_left _ _)
  rw [R.tot_pos]
  refine ⟨v,hv,rfl,?_⟩
  unfold Rn.part
  rw [if_neg (by rw [hs];decide),if_pos ⟨hi,hg⟩];exact hp
theorem Rn.Ok.inr (h:R.Ok rk n):inR R.mv n:=h.dom
theorem Rn.sets_step (h:R.Ok rk n) {v:Mv} (hv:v∈R.mv):∀ i,hasB (R.sets n i) v.src.toNat=true→R.st i v=true→hasB (R.sets n i) v.dst.toNat=true:=fun i hs hst=>by
  obtain ⟨h0,h1,h2,h3⟩:=h.dom v hv
  cases i with
  | zero=>exact (zb3 (by omega)).2 (.step hv hst ((zb3 (by omega)).1 hs))
  | succ i=>exact (zb3 (by omega)).2 (.step hv hst ((zb3 (by omega)).1 hs))
theorem Rn.Ok.down (h:R.Ok rk n) {i:Nat} (hi:i < R.L):∀ (k q:Nat),rk q < k→q < n→hasB (R.sets n i) q=true→0 < R.all n q i→ ∃ q',q' < n∧hasB (R.sets n (i+1)) q'=true∧0 < R.all n q' (i+1)
  | 0,_,hk,_,_,_=>by omega
  | k+1,q,hk,hq,hs,hp=>by
    rcases h.pos (Int.natCast_nonneg q) (by omega) hp with ⟨_,e⟩ | ⟨v,hv,e,hor⟩
    · omega
    · obtain ⟨h0,h1,h2,h3⟩:=h.dom v hv
      have hsv:hasB (R.sets n i) v.src.toNat=true:=by rw [e,Int.toNat_natCast];exact hs
      have hcd:((v.dst.toNat:Nat):Int)=v.dst:=Int.toNat_of_nonneg h2
      rcases hor with ⟨hst,hp2⟩ | ⟨_,hg,hp2⟩
      · have hm:=h.mono i v hv hst
        rw [e] at hm
        exact h.down hi k v.dst.toNat (by rw [hcd];omega) (by omega) (R.sets_step h hv i hsv hst) (by rw [hcd];exact hp2)
      · refine ⟨v.dst.toNat,by omega,ziS (by omega) ((zjY h.inr _).2 ⟨v,hv,hsv,hg,rfl⟩),by rw [hcd];exact hp2⟩
theorem Rn.Ok.last (h:R.Ok rk n):∀ (k q:Nat),rk q < k→q < n→hasB (R.sets n R.L) q=true→0 < R.all n q R.L→hasB (R.sets n R.L) 1=true
  | 0,_,hk,_,_,_=>by omega
  | k+1,q,hk,hq,hs,hp=>by
    rcases h.pos (Int.natCast_nonneg q) (by omega) hp with ⟨e,_⟩ | ⟨v,hv,e,hor⟩
    · obtain rfl:q=1:=by omega
      exact hs
    · obtain ⟨h0,h1,h2,h3⟩:=h.dom v hv
      have hsv:hasB (R.sets n R.L) v.src.toNat=true:=by rw [e,Int.toNat_natCast];exact hs
      have hcd:((v.dst.toNat:Nat):Int)=v.dst:=Int.toNat_of_nonneg h2
      rcases hor with ⟨hst,hp2⟩ | ⟨hlt,_,_⟩
      · have hm:=h.mono R.L v hv hst
        rw [e] at hm
        exact h.last k v.dst.toNat (by rw [hcd];omega) (by omega) (R.sets_step h hv _ hsv hst) (by rw [hcd];exact hp2)
      · omega
theorem Rn.Ok.sets_pos (h:R.Ok rk n) (h2:2≤n) (hx:∀ i, ∀ v∈R.mv,R.go i v=true→R.st i v=false):∀ i,i≤R.L→(0 < R.all n 0 0↔∃ q,q < n∧hasB (R.sets n i) q=true∧0 < R.all n q i)
  | 0,_=>by
    constructor
    · intro hp
      exact ⟨0,by omega,ziS (by omega) rfl,hp⟩
    · rintro ⟨q,hq,hs,hp⟩
      have key:∀ q,Rch R.mv (R.st 0) (hasB [true]) q→q < n→0 < R.all n q 0→0 < R.all n 0 0:=fun q hr=>by
        induction hr with
        | @base j hb =>
          intro _ hp
          cases j with
          | zero=>exact hp
          | succ j=>simp [hasB] at hb
        | step hv hst _ ih =>
          intro _ hp
          obtain ⟨h0,h1,h2,h3⟩:=h.dom _ hv
          rw [Int.toNat_of_nonneg h2] at hp
          exact ih (by omega) (by rw [Int.toNat_of_nonneg h0];exact h.pos_stay hv hst hp)
      exact key q ((zb3 hq).1 hs) hq hp
  | i+1,hi=>by
    rw [h.sets_pos h2 hx i (by omega)]
    constructor
    · rintro ⟨q,hq,hs,hp⟩
      exact h.down (by omega) _ q (Nat.lt_succ_self _) hq hs hp
    · rintro ⟨q,hq,hs,hp⟩
      have key:∀ q,Rch R.mv (R.st (i+1)) (hasB (goF R.mv (R.go i) (hasB (R.sets n i)) n)) q→q < n→0 < R.all n q (i+1)→ ∃ q,q < n∧hasB (R.sets n i) q=true∧0 < R.all n q i:=fun q hr=>by
        induction hr with
        | base hb =>
          intro _ hp
          obtain ⟨v,hv,hs,hg,rfl⟩:=(zjY h.inr _).1 hb
          obtain ⟨h0,h1,h2,h3⟩:=h.dom v hv
          rw [Int.toNat_of_nonneg h2] at hp
          exact ⟨v.src.toNat,by omega,hs,by rw [Int.toNat_of_nonneg h0];exact h.pos_go hv (by omega) (hx i v hv hg) hg hp⟩
        | step hv hst _ ih =>
          intro _ hp
          obtain ⟨h0,h1,h2,h3⟩:=h.dom _ hv
          rw [Int.toNat_of_nonneg h2] at hp
          exact ih (by omega) (by rw [Int.toNat_of_nonneg h0];exact h.pos_stay hv hst hp)
      exact key q ((zb3 hq).1 hs) hq hp
theorem Rn.Ok.sets_runs (h:R.Ok rk n) (h2:2≤n) (hx:∀ i, ∀ v∈R.mv,R.go i v=true→R.st i v=false):hasB (R.sets n R.L) 1=true↔0 < R.all n 0 0:=by
  rw [h.sets_pos h2 hx R.L (Nat.le_refl _)]
  constructor
  · intro hs
    refine ⟨1,by omega,hs,?_⟩
    show 0 < R.all n 1 R.L
    rw [h.all_eq (by decide) (by omega)]
    unfold Rn.base
    rw [if_pos ⟨rfl,rfl⟩];omega
  · rintro ⟨q,hq,hs,hp⟩
    exact h.last _ q (Nat.lt_succ_self _) hq hs hp
end
end Go.Proofs.YtiplihojmfbjkaaGreat
namespace Go.Proofs.YtiplihojmfbjkaaGreat
open Go.RowKit
theorem zms (e b:Int):errT e b=0↔e=0∧b=0:=by
  unfold errT
  split
  · omega
  · split<;>omega
theorem zgm:∀ (l:List Int) (e:Int),l.foldl errT e=0↔e=0∧ ∀ b∈l,b=0
  | [],e=>by simp
  | b :: l,e=>by
    rw [List.foldl_cons,zgm l,zms]
    constructor
    · rintro ⟨⟨h1,h2⟩,h3⟩
      exact ⟨h1,fun x hx=>(List.mem_cons.1 hx).elim (fun e=>by rw [e];exact h2) (h3 x)⟩
    · rintro ⟨h1,h2⟩
      exact ⟨⟨h1,h2 b List.mem_cons_self⟩,fun x hx=>h2 x (List.mem_cons_of_mem _ hx)⟩
theorem zfc (g:Gr):∀ (l:List Pt) (e:Int),l.foldl (rowE g) e=0↔e=0∧ ∀ x∈l, ∀ r∈rowT g x,r.2=0
  | [],e=>by simp
  | x :: l,e=>by
    rw [List.foldl_cons,zfc g l]
    have h0:rowE g e x=0↔e=0∧ ∀ r∈rowT g x,r.2=0:=by
      unfold rowE
      rw [zgm]
      constructor
      · rintro ⟨h1,h2⟩;exact ⟨h1,fun r hr=>h2 _ (List.mem_map_of_mem hr)⟩
      · rintro ⟨h1,h2⟩;exact ⟨h1,fun b hb=>by obtain ⟨r,hr,rfl⟩:=List.mem_map.1 hb;exact h2 r hr⟩
    rw [h0]
    constructor
    · rintro ⟨⟨h1,h2⟩,h3⟩
      exact ⟨h1,fun y hy=>(List.mem_cons.1 hy).elim (fun e=>by rw [e];exact h2) (h3 y)⟩
    · rintro ⟨h1,h2⟩
      exact ⟨⟨h1,h2 x List.mem_cons_self⟩,fun y hy=>h2 y (List.mem_cons_of_mem _ hy)⟩
theorem zne {g:Gr} {l m:List Pt} (h:∀ x∈m,x∈l) (h0:tabE g l=0):tabE g m=0 :=
  (zfc g m 0).2 ⟨rfl,fun x hx=>((zfc g l 0).1 h0).2 x (h x hx)⟩
theorem zcP (b:Pt):∀ n:Nat, ∀ q,q∈elems (tailP b n)↔q∈elems b
  | 0,q=>by rw [show tailP b 0=quantP b 1 from rfl,zcS]
  | n+1,q=>by
    rw [show tailP b (n+1)=quantP (joinP 3 [b,tailP b n]) 1 from rfl,zcS,zd5 (by decide),List.flatMap_cons,List.flatMap_cons,List.flatMap_nil,List.append_nil,List.mem_append,zcP b n q,or_self]
theorem zfT:∀ p:Pt,rightP p=true→ ∀ q,q∈elems (normal p)↔q∈elems p:=Pt.ind fun p ih h q=>by
  have hr:=zaF h
  rcases za7 h with hk|hk|hk|hk|hk
  · rw [zaO (.inl hk)]
  · rw [zaO (.inr hk)]
  rotate_left 2
  · obtain ⟨⟨k,hkk,hkr⟩,h1,h2,h3⟩:=zaI h hk
    have hb:=ih k (by rw [hkk];exact List.mem_cons_self) hkr q
    have he:elems p=elems k:=by rw [za5,if_neg (by unfold isElem;simp [hk]),hkk];simp
    rw [zbk hk hkk,zd5 (by decide),he,← hb,List.mem_flatMap]
    constructor
    · rintro ⟨x,hx,hq⟩
      rcases List.mem_append.1 hx with hx|hx
      · rw [(List.mem_replicate.1 hx).2] at hq;exact hq
      · unfold moreP at hx
        split at hx
        · obtain rfl:=List.mem_singleton.1 hx;rwa [zcS] at hq
        · split at hx
          · obtain rfl:=List.mem_singleton.1 hx;exact (zcP _ _ q).1 hq
          · cases hx
    · intro hq
      have hne:=zhk (p:=p) (b:=normal k) h3
      cases hl:List.replicate p.min.toNat (normal k)++moreP p (normal k) with
      | nil=>exact absurd hl hne
      | cons x l =>
        refine ⟨x,List.mem_cons_self,?_⟩
        have hx:x∈List.replicate p.min.toNat (normal k)++moreP p (normal k):=by rw [hl];exact List.mem_cons_self
        rcases List.mem_append.1 hx with hx|hx
        · rw [(List.mem_replicate.1 hx).2];exact hq
        · unfold moreP at hx
          split at hx
          · obtain rfl:=List.mem_singleton.1 hx;rwa [zcS]
          · split at hx
            · obtain rfl:=List.mem_singleton.1 hx;exact (zcP _ _ q).2 hq
            · cases hx
  all_goals
    rw [za1 (by omega),zd5 (by omega),za5 p,if_neg (by unfold isElem;simp [hk]),List.flatMap_map,List.mem_flatMap,List.mem_flatMap]
    constructor
    · rintro ⟨x,hx,hq⟩;exact ⟨x,hx,(ih x hx (hr x hx) q).1 hq⟩
    · rintro ⟨x,hx,hq⟩;exact ⟨x,hx,(ih x hx (hr x hx) q).2 hq⟩
theorem zlU (m:Mach) (g:Gr) (ns es:List Int):FitR (rnOf m (tabF g m.elems) g ns es) m.elems (placeF g ns es):=by
  have hrow:∀ (e:Int) (q:Pt),m.elems[e.toNat]?=some q→ ∀ x:Int,fitAt (tabF g m.elems) e x=(((rowT g q).map (·.1))[x.toNat]?).getD false:=fun e q hq x=>by
    unfold fitAt tabF hasB
    rw [List.getElem?_map,hq];rfl
  refine ⟨fun v i h=>?_,fun v i q h0 hq _=>?_,fun v i q h0 hq _=>?_⟩
  · show staysB m _ _ v=true
    unfold staysB;rw [h];rfl
  · show staysB m _ _ v=_
    unfold staysB placeF
    have h1:(v.elem == -1)=false:=by rw [beq_eq_false_iff_ne];omega
    rw [h1,hq,Bool.false_or]
    dsimp only
    by_cases hk:q.kind=1
    · rw [if_pos hk,hrow _ _ hq]
    · rw [show (q.kind==1)=false by simpa using hk];rfl
  · show goesB m _ _ _ v=_
    unfold goesB placeF
    have h1:(v.elem != -1)=true:=by rw [bne_iff_ne];omega
    rw [h1,hq,Bool.true_and]
    dsimp only
    by_cases hk:q.kind=2
    · rw [if_neg (by omega),hrow _ _ hq,Bool.and_assoc]
    · rw [show (q.kind==2)=false by simpa using hk];rfl
theorem zoE (m:Mach) (fit:List (List Bool)) (g:Gr) (ns es:List Int) (i:Nat) (v:Mv) (h:(rnOf m fit g ns es).go i v=true):(rnOf m fit g ns es).st i v=false:=by
  have h:goesB m fit (es[i]?.getD 0) (alongF g (es[i]?.getD 0) (ns[i]?.getD 0) (ns[i+1]?.getD 0)) v=true:=h
  show staysB m fit (ns[i]?.getD 0) v=false
  unfold goesB at h
  unfold staysB
  rw [Bool.and_eq_true,bne_iff_ne] at h
  obtain ⟨h1,h2⟩:=h
  rw [show (v.elem == -1)=false by simpa using h1,Bool.false_or]
  cases hq:m.elems[v.elem.toNat]? with
  | none=>rfl
  | some q =>
    rw [hq] at h2
    dsimp only at h2 ⊢
    rw [Bool.and_eq_true,Bool.and_eq_true,beq_iff_eq] at h2
    rw [show (q.kind==1)=false by rw [beq_eq_false_iff_ne];omega];rfl
theorem zmL (g:Gr) (l:List Pt):(tabF g l).length=l.length∧ ∀ (j:Nat) (q:Pt) (r:List Bool),l[j]?=some q→(tabF g l)[j]?=some r→r.length=if q.kind=2 then g.edges.length else g.nodes.length:=by
  refine ⟨by unfold tabF;simp,fun j q r hq hr=>?_⟩
  unfold tabF at hr
  rw [List.getElem?_map,hq] at hr
  injection hr with hr
  rw [← hr,List.length_map,zfI]
theorem zmb {m:Mach} {n:Nat} {g:Gr} {ns es:List Int} (hm:MachOk m n) (hP:PathOk g ns es) (hes:es.length≤1000):RunOk m n g (tabF g m.elems) ns es:=by
  obtain ⟨h1,h2⟩:=zmL g m.elems
  refine ⟨hm,hP,hes,fun x hx=>⟨by omega,fun k p' r hp hk hr=>?_,(hP.nodes x hx).1⟩,fun x hx=>⟨by omega,fun k p' r hp hk hr=>?_,(hP.edges x hx).1⟩⟩
  · have:=h2 k p' r hp hr
    rw [if_neg (by omega)] at this
    have:=hP.nodes x hx
    omega
  · have:=h2 k p' r hp hr
    rw [if_pos hk] at this
    have:=hP.edges x hx
    omega
theorem zm0 {p:Pt} {g:Gr} {ns es:List Int} {rk:Int→Nat} {n:Nat} (hr:rightP p=true) (he:endsP p=true) (hn:(buildM (normal p)).states=n) (hok:(rnOf (buildM (normal p)) (tabF g (buildM (normal p)).elems) g ns es).Ok rk n) :
    (rnOf (buildM (normal p)) (tabF g (buildM (normal p)).elems) g ns es).runs n 0 0=cntP g ns es p:=by
  rw [Rn.runs_all,zot (zdq p hr) (zfq p hr he) (zeZ p hr) rfl hn hok (zlU _ g ns es),zjm p hr]
  rfl
end Go.Proofs.YtiplihojmfbjkaaGreat
namespace Go.Proofs.YtiplihojmfbjkaaGreat
open Go.RowKit
section
variable {X:Ctx} {fr:Fr} {σ:Obs} {o:Oper} {ops:Array Oper} {rest:List Oper} {d:Nat} {xx yy:Operand} {γ:Nat→Nat} {T:Nat→Value} {S:Nat→Nat→Prop} {w:World} {a:Act}
variable {τ0 σB:Obs} {K:List Cr} {C0:Cons} {QD:Fr→Obs→Prop} {j:Nat}
end
section
variable {w0:W0} {S0:Nat→Nat→Prop} {nt:Nat} {fr:Fr} {σ τ0 σB:Obs} {o:Oper} {ops:Array Oper} {rest:List Oper} {d:Nat} {xx yy:Operand} {QD:Fr→Obs→Prop} {K:List Cr} {C0:Cons} {j:Nat}
end
end Go.Proofs.YtiplihojmfbjkaaGreat
namespace Go.Proofs.YtiplihojmfbjkaaGreat
open Go.RowKit Go.Sort Go.Shelf
def Tryz.sort109_ren:Go.Shelf.Ren:=⟨fun|6=>109|8=>148|9=>159|19=>193|20=>194|21=>196|22=>197|23=>198|24=>199|25=>200|26=>201|27=>202|28=>203|29=>204|36=>239|31=>235|32=>236|37=>240|38=>241|39=>242|41=>272|n=>n,fun|27=>79|29=>9|3=>3|32=>211|26=>79|0=>0|44=>255|46=>258|4=>4|36=>280|35=>279|41=>126|5=>5|9=>9|53=>312|57=>316|63=>338|64=>76|n=>n,fun|n=>n⟩
theorem Tryz.sort109:Go.Proofs.SlLaysM.n6 Tryz.prog Tryz.sort109_ren:={
  mixed:=by kernel_rfl
  f6:=⟨Tryz.f109.name,by decide,Tryz.func109.trans (congrArg some (by kernel_rfl))⟩
  f8:=Tryz.func148.trans (congrArg some (by kernel_rfl))
  f9:=⟨Tryz.f159.name,by decide,Tryz.func159.trans (congrArg some (by kernel_rfl))⟩
  f19:=Tryz.func193.trans (congrArg some (by kernel_rfl))
  f20:=Tryz.func194.trans (congrArg some (by kernel_rfl))
  f21:=⟨Tryz.f196.name,by decide,Tryz.func196.trans (congrArg some (by kernel_rfl))⟩
  f22:=⟨Tryz.f197.name,by decide,Tryz.func197.trans (congrArg some (by kernel_rfl))⟩
  f23:=⟨Tryz.f198.name,by decide,Tryz.func198.trans (congrArg some (by kernel_rfl))⟩
  f24:=⟨Tryz.f199.name,by decide,Tryz.func199.trans (congrArg some (by kernel_rfl))⟩
  f25:=⟨Tryz.f200.name,by decide,Tryz.func200.trans (congrArg some (by kernel_rfl))⟩
  f26:=⟨Tryz.f201.name,by decide,Tryz.func201.trans (congrArg some (by kernel_rfl))⟩
  f27:=⟨Tryz.f202.name,by decide,Tryz.func202.trans (congrArg some (by kernel_rfl))⟩
  f28:=⟨Tryz.f203.name,by decide,Tryz.func203.trans (congrArg some (by kernel_rfl))⟩
  f29:=⟨Tryz.f204.name,by decide,Tryz.func204.trans (congrArg some (by kernel_rfl))⟩
  f31:=Tryz.func235.trans (congrArg some (by kernel_rfl))
  f32:=Tryz.func236.trans (congrArg some (by kernel_rfl))
  f36:=⟨Tryz.f239.name,by decide,Tryz.func239.trans (congrArg some (by kernel_rfl))⟩
  f37:=⟨Tryz.f240.name,by decide,Tryz.func240.trans (congrArg some (by kernel_rfl))⟩
  f38:=⟨Tryz.f241.name,by decide,Tryz.func241.trans (congrArg some (by kernel_rfl))⟩
  f39:=⟨Tryz.f242.name,by decide,Tryz.func242.trans (congrArg some (by kernel_rfl))⟩
  f41:=⟨Tryz.f272.name,by decide,Tryz.func272.trans (congrArg some (by kernel_rfl))⟩
  t0:=Tryz.underlying0
  a0:=Tryz.isAgg0
  z0:=Tryz.sizeOf0
  v0:=Tryz.zeroValue0
  t3:=Tryz.underlying3
  a3:=Tryz.isAgg3
  z3:=Tryz.sizeOf3
  v3:=Tryz.zeroValue3
  t4:=Tryz.underlying4
  a4:=Tryz.isAgg4
  z4:=Tryz.sizeOf4
  v4:=Tryz.zeroValue4
  t5:=Tryz.underlying5
  a5:=Tryz.isAgg5
  z5:=Tryz.sizeOf5
  v5:=Tryz.zeroValue5
  t9:=Tryz.underlying9
  a9:=Tryz.isAgg9
  z9:=Tryz.sizeOf9
  v9:=Tryz.zeroValue9
  t26:=Tryz.underlying79
  a26:=Tryz.isAgg79
  z26:=Tryz.sizeOf79
  v26:=Tryz.zeroValue79
  t27:=Tryz.underlying79
  a27:=Tryz.isAgg79
  z27:=Tryz.sizeOf79
  v27:=Tryz.zeroValue79
  t29:=Tryz.underlying9
  a29:=Tryz.isAgg9
  z29:=Tryz.sizeOf9
  v29:=Tryz.zeroValue9
  t32:=Tryz.underlying211
  a32:=Tryz.isAgg211
  z32:=Tryz.sizeOf211
  v32:=Tryz.zeroValue211
  t35:=Tryz.underlying279
  a35:=Tryz.isAgg279
  z35:=Tryz.sizeOf279
  v35:=Tryz.zeroValue279
  t36:=Tryz.underlying280
  a36:=Tryz.isAgg280
  z36:=Tryz.sizeOf280
  v36:=Tryz.zeroValue280
  t41:=Tryz.underlying126
  a41:=Tryz.isAgg126
  z41:=Tryz.sizeOf126
  v41:=Tryz.zeroValue126
  t44:=Tryz.underlying255
  a44:=Tryz.isAgg255
  z44:=Tryz.sizeOf255
  v44:=Tryz.zeroValue255
  t46:=Tryz.underlying258
  a46:=Tryz.isAgg258
  z46:=Tryz.sizeOf258
  v46:=Tryz.zeroValue258
  t53:=Tryz.underlying312
  a53:=Tryz.isAgg312
  z53:=Tryz.sizeOf312
  v53:=Tryz.zeroValue312
  t57:=Tryz.underlying316
  a57:=Tryz.isAgg316
  z57:=Tryz.sizeOf316
  v57:=Tryz.zeroValue316
  t63:=Tryz.underlying338
  a63:=Tryz.isAgg338
  z63:=Tryz.sizeOf338
  v63:=Tryz.zeroValue338
  t64:=Tryz.underlying76
  a64:=Tryz.isAgg76
  z64:=Tryz.sizeOf76
  v64:=Tryz.zeroValue76 }
theorem zos:SortsG Tryz.prog 109:=⟨enters_of Tryz.func109 (by kernel_rfl) rfl,fun blk off cap ss W hH hblk hsz=>AnyM.slices_Sort_string Tryz.sort109 blk off cap ss W hH hblk hsz,fun p cap W=>AnyM.slices_Sort_string_none Tryz.sort109 p cap W⟩
end Go.Proofs.YtiplihojmfbjkaaGreat
namespace Go.Proofs.YtiplihojmfbjkaaGreat
open Go.RowKit Go.Sort Go.Shelf
def Tryz.compact113_ren:Go.Shelf.Ren:=⟨fun|194=>113|n=>n,fun|31=>79|9=>9|3=>3|4=>4|0=>0|n=>n,fun|n=>n⟩
theorem Tryz.compact113:Go.Proofs.Lays.n194 Tryz.prog Tryz.compact113_ren:={
  mixed:=by kernel_rfl
  f194:=Tryz.func113.trans (congrArg some (by kernel_rfl))
  t0:=Tryz.underlying0
  a0:=Tryz.isAgg0
  z0:=Tryz.sizeOf0
  v0:=Tryz.zeroValue0
  t3:=Tryz.underlying3
  a3:=Tryz.isAgg3
  z3:=Tryz.sizeOf3
  v3:=Tryz.zeroValue3
  t4:=Tryz.underlying4
  a4:=Tryz.isAgg4
  z4:=Tryz.sizeOf4
  v4:=Tryz.zeroValue4
  t9:=Tryz.underlying9
  a9:=Tryz.isAgg9
  z9:=Tryz.sizeOf9
  v9:=Tryz.zeroValue9
  t31:=Tryz.underlying79
  a31:=Tryz.isAgg79
  z31:=Tryz.sizeOf79
  v31:=Tryz.zeroValue79 }
theorem zoO:CompG Tryz.prog 113:=⟨enters_of Tryz.func113 (by kernel_rfl) rfl,fun blk off cap zs w h1 h2 h3=>calls_of_every_depth fun D=>AnyS.slices_Compact_string_in Tryz.compact113 D blk off cap zs w h1 h2 h3,fun p cap w=>calls_of_every_depth fun D=>AnyS.slices_Compact_string_empty_in Tryz.compact113 D p cap w⟩
end Go.Proofs.YtiplihojmfbjkaaGreat
