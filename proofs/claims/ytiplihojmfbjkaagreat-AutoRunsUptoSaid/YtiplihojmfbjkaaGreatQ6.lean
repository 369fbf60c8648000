/- Runs of a machine over a path,in plain Lean: from the front,and from behind,are as many. No program in sight. -/
import Derived.Test.YtiplihojmfbjkaaGreatQ4
namespace Go.Proofs.YtiplihojmfbjkaaGreat
open Go.RowKit
def capN (n:Nat):Nat:=min n 1001
theorem zeI (n:Nat):capN n≤1001:=Nat.min_le_right _ _
structure Rn where
  mv:List Mv
  st:Nat→Mv→Bool
  go:Nat→Mv→Bool
  L:Nat
def Rn.base (R:Rn) (s:Int) (i:Nat):Nat:=if s=1∧i=R.L then 1 else 0
def Rn.part (R:Rn) (a b:Int→Nat) (i:Nat) (v:Mv):Nat:=if R.st i v=true then a v.dst else if i < R.L∧R.go i v=true then b v.dst else 0
def Rn.tot (R:Rn) (a b:Int→Nat) (s:Int) (i:Nat) (l:List Mv):Nat:=(l.map fun v=>if v.src=s then R.part a b i v else 0).sum
def Rn.runF (R:Rn):Nat→Int→Nat→Nat
  | 0,_,_=>0
  | k+1,s,i=>capN (R.base s i+R.tot (fun d=>R.runF k d i) (fun d=>R.runF k d (i+1)) s i R.mv)
theorem zhD {α:Type} {f g:α→Nat}:∀ {l:List α},(∀ x∈l,f x=g x)→(l.map f).sum=(l.map g).sum
  | [],_=>rfl
  | x :: l,h=>by rw [List.map_cons,List.map_cons,List.sum_cons,List.sum_cons,h x List.mem_cons_self,zhD fun y hy=>h y (List.mem_cons_of_mem _ hy)]
theorem Rn.tot_congr (R:Rn) {a b a' b':Int→Nat} {s:Int} {i:Nat} {l:List Mv} (h:∀ v∈l,v.src=s→R.part a b i v=R.part a' b' i v):R.tot a b s i l=R.tot a' b' s i l :=
  zhD fun v hv=>by
    split
    · rename_i e;exact h v hv e
    · rfl
theorem Rn.tot_app (R:Rn) (a b:Int→Nat) (s:Int) (i:Nat) (l m:List Mv):R.tot a b s i (l++m)=R.tot a b s i l+R.tot a b s i m:=by unfold Rn.tot;rw [List.map_append,List.sum_append]
theorem Rn.tot_next (R:Rn) (a b:Int→Nat) (s:Int) (i:Nat) {l:List Mv} {j:Nat} {v:Mv} (h:l[j]?=some v):R.tot a b s i (l.take (j+1))=R.tot a b s i (l.take j)+if v.src=s then R.part a b i v else 0:=by
  obtain ⟨hlt,rfl⟩:=List.getElem?_eq_some_iff.1 h
  rw [List.take_succ_eq_append_getElem hlt,R.tot_app]
  simp [Rn.tot]
theorem Rn.tot_le (R:Rn) {a b:Int→Nat} (ha:∀ d,a d≤1001) (hb:∀ d,b d≤1001) (s:Int) (i:Nat):∀ l:List Mv,R.tot a b s i l≤1001 * l.length
  | []=>Nat.zero_le _
  | v :: l=>by
    have:=R.tot_le ha hb s i l
    unfold Rn.tot at this ⊢
    rw [List.map_cons,List.sum_cons,List.length_cons]
    have h1:(if v.src=s then R.part a b i v else 0)≤1001:=by
      unfold Rn.part
      have:=ha v.dst
      have:=hb v.dst
      split
      · split
        · omega
        · split<;>omega
      · omega
    omega
structure Rn.Ok (R:Rn) (rk:Int→Nat) (n:Nat):Prop where
  dom:∀ v∈R.mv,0≤v.src∧v.src < n∧0≤v.dst∧v.dst < n
  lt:∀ x:Int,0≤x→x < n→rk x < n
  mono:∀ i, ∀ v∈R.mv,R.st i v=true→rk v.dst < rk v.src
def Rn.mu (R:Rn) (rk:Int→Nat) (n:Nat) (s:Int) (i:Nat):Nat:=(R.L - i) * (n+1)+rk s
section
variable {R:Rn} {rk:Int→Nat} {n:Nat}
theorem Rn.Ok.stay (h:R.Ok rk n) {v:Mv} (hv:v∈R.mv) {i:Nat} (hs:R.st i v=true):R.mu rk n v.dst i < R.mu rk n v.src i:=by
  have:=h.mono i v hv hs
  unfold Rn.mu;omega
theorem Rn.Ok.goes (h:R.Ok rk n) {v:Mv} (hv:v∈R.mv) {i:Nat} (hi:i < R.L):R.mu rk n v.dst (i+1) < R.mu rk n v.src i:=by
  obtain ⟨_,_,h3,h4⟩:=h.dom v hv
  have:=h.lt v.dst h3 h4
  unfold Rn.mu
  obtain ⟨k,hk⟩:∃ k,R.L - i=k+1:=⟨R.L - i - 1,by omega⟩
  rw [hk,show R.L - (i+1)=k by omega,Nat.succ_mul];omega
theorem Rn.Ok.steady (h:R.Ok rk n):∀ (k k':Nat) (s:Int) (i:Nat),R.mu rk n s i < k→R.mu rk n s i < k'→R.runF k s i=R.runF k' s i
  | 0,_,_,_,h1,_=>by omega
  | _,0,_,_,_,h2=>by omega
  | k+1,k'+1,s,i,h1,h2=>by
    unfold Rn.runF
    congr 2
    refine R.tot_congr fun v hv e=>?_
    unfold Rn.part
    split
    · rename_i hs
      have:=h.stay hv hs
      rw [e] at this
      exact h.steady k k' v.dst i (by omega) (by omega)
    · split
      · rename_i hg
        have:=h.goes hv hg.1
        rw [e] at this
        exact h.steady k k' v.dst (i+1) (by omega) (by omega)
      · rfl
def Rn.runs (R:Rn) (n:Nat) (s:Int) (i:Nat):Nat:=R.runF ((R.L+1) * (n+1)) s i
theorem Rn.runs_le (R:Rn) (n:Nat) (s:Int) (i:Nat):R.runs n s i≤1001:=by
  unfold Rn.runs
  cases (R.L+1) * (n+1) with
  | zero=>exact Nat.zero_le _
  | succ k=>exact zeI _
theorem Rn.Ok.mu_lt (h:R.Ok rk n) {s:Int} (h0:0≤s) (h1:s < n) (i:Nat):R.mu rk n s i < (R.L+1) * (n+1):=by
  have:=h.lt s h0 h1
  unfold Rn.mu
  have h2:(R.L - i) * (n+1)≤R.L * (n+1):=Nat.mul_le_mul_right _ (by omega)
  rw [Nat.succ_mul];omega
theorem Rn.Ok.runs_eq (h:R.Ok rk n) {s:Int} (h0:0≤s) (h1:s < n) (i:Nat):R.runs n s i=capN (R.base s i+R.tot (fun d=>R.runs n d i) (fun d=>R.runs n d (i+1)) s i R.mv):=by
  have hmu:=h.mu_lt h0 h1 i
  unfold Rn.runs
  obtain ⟨k,hk⟩:∃ k,(R.L+1) * (n+1)=k+1:=⟨R.L * (n+1)+n,by rw [Nat.succ_mul];rfl⟩
  rw [hk] at hmu ⊢
  conv=>lhs;unfold Rn.runF
  congr 2
  refine R.tot_congr fun v hv e=>?_
  unfold Rn.part
  split
  · rename_i hs
    have:=h.stay hv hs
    rw [e] at this
    exact h.steady k (k+1) v.dst i (by omega) (by omega)
  · split
    · rename_i hg
      have:=h.goes hv hg.1
      rw [e] at this
      exact h.steady k (k+1) v.dst (i+1) (by omega) (by omega)
    · rfl
def Rn.round (R:Rn) (next:Int→Nat) (i:Nat):Nat→Int→Nat
  | 0,_=>0
  | k+1,s=>capN (R.base s i+R.tot (R.round next i k) next s i R.mv)
end
def rowF (f:Int→Nat) (n:Nat):List Int:=(List.range n).map fun i=>((f (i:Nat):Nat):Int)
theorem zex (f:Int→Nat) (n:Nat):(rowF f n).length=n:=by unfold rowF;simp
theorem zfJ {f:Int→Nat} {n i:Nat} (h:i < n):(rowF f n)[i]?=some ((f (i:Int):Nat):Int):=by unfold rowF;simp [h]
theorem zf5 {f g:Int→Nat} {n:Nat} (h:∀ i:Int,0≤i→i < n→f i=g i):rowF f n=rowF g n:=by
  unfold rowF
  refine List.map_congr_left fun i hi=>?_
  have:=List.mem_range.1 hi
  rw [h i (by omega) (by omega)]
theorem zmx {f:Int→Nat} {n i:Nat} (h:i < n) (c:Nat):(rowF f n).set i (c:Int)=rowF (fun x=>if x=(i:Int) then c else f x) n:=by
  apply List.ext_getElem?
  intro j
  rw [List.getElem?_set,zex]
  by_cases hj:j < n
  · rw [zfJ hj,zfJ hj]
    by_cases e:i=j
    · subst e;simp [h]
    · rw [if_neg e,if_neg (by omega)]
  · rw [List.getElem?_eq_none (by rw [zex];omega),List.getElem?_eq_none (by rw [zex];omega)]
    rw [if_neg (by omega)]
end Go.Proofs.YtiplihojmfbjkaaGreat
namespace Go.Proofs.YtiplihojmfbjkaaGreat
open Go.RowKit
abbrev Vec:=Nat→Nat
def addV (u v:Vec):Vec:=fun i=>u i+v i
def zeroV0:Vec:=fun _=>0
def sumV (l:List Vec):Vec:=l.foldr addV zeroV0
def endV (L:Nat):Vec:=fun i=>if i=L then 1 else 0
def powV (f:Vec→Vec):Nat→Vec→Vec
  | 0,w=>w
  | n+1,w=>f (powV f n w)
theorem zfM (f:Vec→Vec) (m:Nat):∀ (n:Nat) (w:Vec),powV f (n+m) w=powV f n (powV f m w)
  | 0,w=>by rw [Nat.zero_add];rfl
  | n+1,w=>by rw [Nat.succ_add];show f _=f _;rw [zfM f m n w]
def upV (f:Vec→Vec) (least:Nat):Nat→Vec→Vec
  | 0,w=>powV f least w
  | n+1,w=>addV (upV f least n w) (powV f (least+n+1) w)
def moreN (L:Nat) (p:Pt):Nat:=if p.max < 0 then L else p.max.toNat - p.min.toNat
def backT (L:Nat) (F:Pt→Nat→Bool):Pt→Vec→Vec:=foldP fun p ks w =>
  if p.kind=1 then fun i=>if F p i=true then w i else 0
  else if p.kind=2 then fun i=>if i < L∧F p i=true then w (i+1) else 0
  else if p.kind=3 then ks.foldr (fun k w=>k w) w
  else if p.kind=4 then sumV (ks.map fun k=>k w)
  else if p.kind=5 then match ks with
    | []=>zeroV0
    | k :: _=>upV k p.min.toNat (moreN L p) w
  else zeroV0
section
variable {L:Nat} {F:Pt→Nat→Bool}
theorem zb8 (p:Pt) (w:Vec):backT L F p w=if p.kind=1 then fun i=>if F p i=true then w i else 0
  else if p.kind=2 then fun i=>if i < L∧F p i=true then w (i+1) else 0
  else if p.kind=3 then (p.kids.map (backT L F)).foldr (fun k w=>k w) w
  else if p.kind=4 then sumV ((p.kids.map (backT L F)).map fun k=>k w)
  else if p.kind=5 then match p.kids.map (backT L F) with
    | []=>zeroV0
    | k :: _=>upV k p.min.toNat (moreN L p) w
  else zeroV0:=by
  unfold backT;rw [zaV]
theorem zdt {p:Pt} (h:p.kind=1) (w:Vec):backT L F p w=fun i=>if F p i=true then w i else 0:=by rw [zb8,if_pos h]
theorem zds {p:Pt} (h:p.kind=2) (w:Vec):backT L F p w=fun i=>if i < L∧F p i=true then w (i+1) else 0:=by rw [zb8,if_neg (by omega),if_pos h]
theorem zcu {p:Pt} (h:p.kind=3) (w:Vec):backT L F p w=p.kids.foldr (fun k w=>backT L F k w) w:=by rw [zb8,if_neg (by omega),if_neg (by omega),if_pos h,List.foldr_map]
theorem zcv {p:Pt} (h:p.kind=4) (w:Vec):backT L F p w=sumV (p.kids.map fun k=>backT L F k w):=by rw [zb8,if_neg (by omega),if_neg (by omega),if_neg (by omega),if_pos h,List.map_map];rfl
theorem zcf {p k:Pt} (h:p.kind=5) (hk:p.kids=[k]) (w:Vec):backT L F p w=upV (backT L F k) p.min.toNat (moreN L p) w:=by
  rw [zb8,if_neg (by omega),if_neg (by omega),if_neg (by omega),if_neg (by omega),if_pos h,hk];rfl
theorem zg7 (u:Vec):addV u zeroV0=u:=funext fun _=>rfl
theorem zgz (u v w:Vec):addV (addV u v) w=addV u (addV v w):=funext fun _=>Nat.add_assoc _ _ _
theorem zeR (u:Vec):addV zeroV0 u=u:=funext fun _=>Nat.zero_add _
theorem zfG:∀ (l m:List Vec),sumV (l++m)=addV (sumV l) (sumV m)
  | [],m=>(zeR _).symm
  | u :: l,m=>by
    show addV u (sumV (l++m))=addV (addV u (sumV l)) (sumV m)
    rw [zfG l m,zgz]
structure Lin (f:Vec→Vec):Prop where
  zero:f zeroV0=zeroV0
  add:∀ u v,f (addV u v)=addV (f u) (f v)
theorem Lin.sum {f:Vec→Vec} (h:Lin f):∀ l:List Vec,f (sumV l)=sumV (l.map f)
  | []=>h.zero
  | u :: l=>by
    show f (addV u (sumV l))=addV (f u) (sumV (l.map f))
    rw [h.add,h.sum l]
theorem Lin.pow {f:Vec→Vec} (h:Lin f):∀ n,Lin (powV f n)
  | 0=>⟨rfl,fun _ _=>rfl⟩
  | n+1=>⟨by show f _=_;rw [(h.pow n).zero,h.zero],fun u v=>by show f _=addV (f _) (f _);rw [(h.pow n).add,h.add]⟩
theorem zhp (a b c d:Vec):addV (addV a b) (addV c d)=addV (addV a c) (addV b d):=funext fun i=>by show a i+b i+(c i+d i)=a i+c i+(b i+d i);omega
theorem Lin.up {f:Vec→Vec} (h:Lin f) (least:Nat):∀ n,Lin (upV f least n)
  | 0=>h.pow least
  | n+1=>⟨by show addV _ _=_;rw [(h.up least n).zero,(h.pow _).zero];rfl,fun u v=>by
    show addV _ _=addV (addV _ _) (addV _ _)
    rw [(h.up least n).add,(h.pow _).add,zhp]⟩
theorem zha:∀ (l:List Pt),(∀ k∈l,Lin (backT L F k))→Lin (fun w=>l.foldr (fun k w=>backT L F k w) w)
  | [],_=>⟨rfl,fun _ _=>rfl⟩
  | k :: l,h=>by
    have h1:=h k List.mem_cons_self
    have h2:=zha l fun x hx=>h x (List.mem_cons_of_mem _ hx)
    exact ⟨by simp only [List.foldr_cons];rw [h2.zero,h1.zero],fun u v=>by simp only [List.foldr_cons];rw [h2.add,h1.add]⟩
theorem zkb:∀ (l:List Pt),(∀ k∈l,Lin (backT L F k))→Lin (fun w=>sumV (l.map fun k=>backT L F k w))
  | [],_=>⟨rfl,fun _ _=>rfl⟩
  | k :: l,h=>by
    have h1:=h k List.mem_cons_self
    have h2:=zkb l fun x hx=>h x (List.mem_cons_of_mem _ hx)
    exact ⟨by show addV (backT L F k zeroV0) (sumV _)=_;rw [h1.zero,h2.zero];rfl,fun u v=>by
      show addV (backT L F k (addV u v)) (sumV (l.map fun k=>backT L F k (addV u v)))=addV (addV _ (sumV (l.map fun k=>backT L F k u))) (addV _ (sumV (l.map fun k=>backT L F k v)))
      rw [h1.add,h2.add,zhp]⟩
theorem zen:∀ p:Pt,Lin (backT L F p):=Pt.ind fun p ih=>by
  have h0:Lin (fun _=>zeroV0):=⟨rfl,fun _ _=>rfl⟩
  by_cases h1:p.kind=1
  · rw [show backT L F p=fun w i=>if F p i=true then w i else 0 from funext fun w=>zdt h1 w]
    exact ⟨funext fun i=>by simp [zeroV0],fun u v=>funext fun i=>by simp only [addV];split<;>rfl⟩
  by_cases h2:p.kind=2
  · rw [show backT L F p=fun w i=>if i < L∧F p i=true then w (i+1) else 0 from funext fun w=>zds h2 w]
    exact ⟨funext fun i=>by simp [zeroV0],fun u v=>funext fun i=>by simp only [addV];split<;>rfl⟩
  by_cases h3:p.kind=3
  · rw [show backT L F p=_ from funext fun w=>zcu h3 w];exact zha p.kids ih
  by_cases h4:p.kind=4
  · rw [show backT L F p=_ from funext fun w=>zcv h4 w];exact zkb p.kids ih
  by_cases h5:p.kind=5
  · cases hk:p.kids with
    | nil=>rw [show backT L F p=fun _=>zeroV0 from funext fun w=>by rw [zb8,if_neg h1,if_neg h2,if_neg h3,if_neg h4,if_pos h5,hk];rfl];exact h0
    | cons k l =>
      rw [show backT L F p=upV (backT L F k) p.min.toNat (moreN L p) from funext fun w=>by rw [zb8,if_neg h1,if_neg h2,if_neg h3,if_neg h4,if_pos h5,hk];rfl]
      exact (ih k (by rw [hk];exact List.mem_cons_self)).up _ _
  · rw [show backT L F p=fun _=>zeroV0 from funext fun w=>by rw [zb8,if_neg h1,if_neg h2,if_neg h3,if_neg h4,if_neg h5]];exact h0
def Ahead (L d:Nat) (f:Vec→Vec):Prop:=∀ (u v:Vec) (i:Nat),(∀ j,i+d≤j→j≤L→u j=v j)→i≤L→f u i=f v i
theorem Ahead.le {d d':Nat} {f:Vec→Vec} (h:Ahead L d f) (hd:d'≤d):Ahead L d' f:=fun u v i huv hi=>h u v i (fun j h1 h2=>huv j (by omega) h2) hi
theorem Ahead.comp {d d':Nat} {f g:Vec→Vec} (h:Ahead L d f) (h':Ahead L d' g):Ahead L (d+d') (fun w=>f (g w)):=fun u v i huv hi=>h (g u) (g v) i (fun j h1 h2=>h' u v j (fun k h3 h4=>huv k (by omega) h4) h2) hi
theorem Ahead.pow {d:Nat} {f:Vec→Vec} (h:Ahead L d f):∀ n,Ahead L (n * d) (powV f n)
  | 0=>fun u v i huv hi=>huv i (by omega) hi
  | n+1=>by
    have:=h.comp (h.pow n)
    rw [Nat.succ_mul,Nat.add_comm]
    exact this
theorem Ahead.add {d:Nat} {f g:Vec→Vec} (h:Ahead L d f) (h':Ahead L d g):Ahead L d (fun w=>addV (f w) (g w)):=fun u v i huv hi=>by show f u i+g u i=f v i+g v i;rw [h u v i huv hi,h' u v i huv hi]
theorem Ahead.up {d:Nat} {f:Vec→Vec} (h:Ahead L d f) (least:Nat):∀ n,Ahead L (least * d) (upV f least n)
  | 0=>h.pow least
  | n+1=>(h.up least n).add ((h.pow (least+n+1)).le (Nat.mul_le_mul_right d (by omega)))
def lowD (p:Pt):Nat:=if 0 < (lenP p).low then 1 else 0
theorem zhE:∀ (l:List Pt),(∀ k∈l,Ahead L (lowD k) (backT L F k))→Ahead L (if 0 < (spanS (l.map lenP)).low then 1 else 0) (fun w=>l.foldr (fun k w=>backT L F k w) w)
  | [],_=>fun u v i huv hi=>huv i (by show i+0≤i;omega) hi
  | k :: l,h=>by
    have h1:=h k List.mem_cons_self
    have h2:=zhE l fun x hx=>h x (List.mem_cons_of_mem _ hx)
    have h3:=h1.comp h2
    refine Ahead.le h3 ?_
    rw [List.map_cons,zbB _ (zbb k)]
    have:=zgJ (lenP k) (spanS (l.map lenP))
    unfold lowD
    split<;>split<;>split<;>omega
theorem zhm:∀ (l:List Pt) (d:Nat),(∀ k∈l,Ahead L d (backT L F k))→Ahead L d (fun w=>sumV (l.map fun k=>backT L F k w))
  | [],_,_=>fun _ _ _ _ _=>rfl
  | k :: l,d,h=>(h k List.mem_cons_self).add (zhm l d fun x hx=>h x (List.mem_cons_of_mem _ hx))
theorem zoj {l:List Sp} {s:Sp} (h:s∈l) (h0:0 < (altS l).low):0 < s.low:=Nat.pos_of_ne_zero fun h1=>by rw [zjU h h1] at h0;omega
theorem zda:∀ p:Pt,rightP p=true→Ahead L (lowD p) (backT L F p):=Pt.ind fun p ih h=>by
  have hr:=zaF h
  have hl:=zcz p
  rcases za7 h with h1|h2|h3|h4|h5
  · rw [if_pos h1] at hl
    rw [show backT L F p=_ from funext fun w=>zdt h1 w]
    intro u v i huv hi
    have e:=huv i (by unfold lowD;rw [hl];show i+0≤i;omega) hi
    simp only [e]
  · rw [if_neg (by omega),if_pos h2] at hl
    rw [show backT L F p=_ from funext fun w=>zds h2 w]
    intro u v i huv hi
    by_cases hlt:i < L
    · have e:=huv (i+1) (by unfold lowD;rw [hl];show i+1≤i+1;omega) (by omega)
      simp only [e]
    · simp only [hlt,false_and,if_false]
  · rw [show backT L F p=_ from funext fun w=>zcu h3 w]
    have:=zhE (L:=L) (F:=F) p.kids fun k hk=>ih k hk (hr k hk)
    unfold lowD;rw [zd0 h3];exact this
  · rw [show backT L F p=_ from funext fun w=>zcv h4 w]
    refine zhm p.kids _ fun k hk=>(ih k hk (hr k hk)).le ?_
    unfold lowD
    rw [zd1 h4]
    split
    · rename_i h0;rw [if_pos (zoj (List.mem_map_of_mem hk) h0)];omega
    · omega
  · obtain ⟨⟨k,hkk,hkr⟩,q1,q2,q3⟩:=zaI h h5
    have hb:=ih k (by rw [hkk];exact List.mem_cons_self) hkr
    rw [show backT L F p=_ from funext fun w=>zcf h5 hkk w]
    refine Ahead.le (hb.up p.min.toNat (moreN L p)) ?_
    unfold lowD
    rw [zbY h5 hkk]
    by_cases hlow:0 < (lenP k).low
    · rw [if_pos hlow,Nat.mul_one]
      split
      · rename_i h0
        have h0:0 < sat ((lenP k).low * p.min.toNat):=h0
        cases hm:p.min.toNat with
        | zero=>rw [hm] at h0;exact absurd h0 (by rw [Nat.mul_zero];decide)
        | succ n=>omega
      · omega
    · rw [if_neg hlow,Nat.mul_zero]
      split
      · rename_i h0
        have h0:0 < sat ((lenP k).low * p.min.toNat):=h0
        rw [show (lenP k).low=0 by omega,Nat.zero_mul] at h0
        exact absurd h0 (by decide)
      · omega
theorem znl {f:Vec→Vec} (hL:Lin f) (h:Ahead L 1 f) {n i:Nat} (hi:i≤L) (hn:L < i+n) (w:Vec):powV f n w i=0:=by
  have h1:=h.pow n
  rw [Nat.mul_one] at h1
  rw [h1 w zeroV0 i (fun j h2 h3=>by omega) hi,(hL.pow n).zero];rfl
theorem zjV {f:Vec→Vec} (hL:Lin f) (h:Ahead L 1 f) (least:Nat) (w:Vec) {i:Nat} (hi:i≤L):∀ n m:Nat,L≤n→n≤m→upV f least m w i=upV f least n w i
  | n,m,hn,hm=>by
    obtain ⟨k,rfl⟩:∃ k,m=n+k:=⟨m - n,by omega⟩
    induction k with
    | zero=>rfl
    | succ k ih =>
      show addV (upV f least (n+k) w) (powV f (least+(n+k)+1) w) i=_
      unfold addV
      rw [znl hL h hi (by omega),ih (by omega)];rfl
theorem zfa (l m:List Pt) (w:Vec):(l++m).foldr (fun k w=>backT L F k w) w=l.foldr (fun k w=>backT L F k w) (m.foldr (fun k w=>backT L F k w) w):=List.foldr_append
theorem zgj:∀ (l:List Pt) (w:Vec),(l.flatMap (openP 3)).foldr (fun k w=>backT L F k w) w=l.foldr (fun k w=>backT L F k w) w
  | [],_=>rfl
  | p :: l,w=>by
    rw [List.flatMap_cons,zfa,zgj l w,List.foldr_cons]
    unfold openP
    split
    · rename_i h;rw [zcu h]
    · rfl
theorem zef (l:List Pt) (w:Vec):backT L F (joinP 3 l) w=l.foldr (fun k w=>backT L F k w) w:=by
  rw [← zgj l w]
  rcases zbq 3 l with ⟨p,e1,e2⟩ | ⟨_,e2⟩
  · rw [e2,e1];rfl
  · rw [e2,zcu rfl];rfl
theorem zgd (w:Vec):∀ (l:List Pt),sumV ((l.flatMap (openP 4)).map fun k=>backT L F k w)=sumV (l.map fun k=>backT L F k w)
  | []=>rfl
  | p :: l=>by
    rw [List.flatMap_cons,List.map_append,zfG,zgd w l,List.map_cons]
    show _=addV (backT L F p w) _
    congr 1
    unfold openP
    split
    · rename_i h;rw [zcv h]
    · exact zg7 _
theorem zkF (l:List Pt) (w:Vec):backT L F (joinP 4 l) w=sumV (l.map fun k=>backT L F k w):=by
  rw [← zgd w l]
  rcases zbq 4 l with ⟨p,e1,e2⟩ | ⟨_,e2⟩
  · rw [e2,e1];exact (zg7 _).symm
  · rw [e2,zcv rfl];rfl
theorem zim (b:Pt) (w:Vec):backT L F (quantP b 1) w=addV w (backT L F b w):=by
  rw [zcf (k:=b) rfl rfl];rfl
theorem zlb (b:Pt) (w:Vec):backT L F (quantP b (-1)) w=upV (backT L F b) 0 L w:=by
  rw [zcf (k:=b) rfl rfl];rfl
theorem zgL {f:Vec→Vec} (hL:Lin f) (w:Vec):∀ n,addV w (f (upV f 0 n w))=upV f 0 (n+1) w
  | 0=>rfl
  | n+1=>by
    show addV w (f (addV (upV f 0 n w) (powV f (0+n+1) w)))=addV (upV f 0 (n+1) w) (powV f (0+(n+1)+1) w)
    rw [hL.add,← zgz,zgL hL w n]
    congr 1
theorem zhG (b:Pt) (w:Vec):∀ n,backT L F (tailP b n) w=upV (backT L F b) 0 (n+1) w
  | 0=>by rw [show tailP b 0=quantP b 1 from rfl,zim];rfl
  | n+1=>by
    rw [show tailP b (n+1)=quantP (joinP 3 [b,tailP b n]) 1 from rfl,zim,zef]
    show addV w (backT L F b (backT L F (tailP b n) w))=_
    rw [zhG b w n,zgL (zen b)]
theorem ziL (b:Pt) (w:Vec):∀ n,(List.replicate n b).foldr (fun k w=>backT L F k w) w=powV (backT L F b) n w
  | 0=>rfl
  | n+1=>by rw [List.replicate_succ,List.foldr_cons,ziL b w n];rfl
theorem zlP {f:Vec→Vec} (hL:Lin f) (w:Vec) (m:Nat):∀ n,powV f m (upV f 0 n w)=upV f m n w
  | 0=>rfl
  | n+1=>by
    show powV f m (addV (upV f 0 n w) (powV f (0+n+1) w))=addV (upV f m n w) (powV f (m+n+1) w)
    rw [(hL.pow m).add,zlP hL w m n,← zfM,Nat.zero_add,Nat.add_assoc]
theorem zjm:∀ p:Pt,rightP p=true→backT L F (normal p)=backT L F p:=Pt.ind fun p ih h=>by
  have hr:=zaF h
  rcases za7 h with hk|hk|hk|hk|hk
  · rw [zaO (.inl hk)]
  · rw [zaO (.inr hk)]
  · funext w
    rw [za1 (.inl hk),hk,zef,zcu hk,List.foldr_map]
    have key:∀ l:List Pt,(∀ k∈l,k∈p.kids)→l.foldr (fun k w=>backT L F (normal k) w) w=l.foldr (fun k w=>backT L F k w) w:=fun l=>by
      induction l with
      | nil=>intro _;rfl
      | cons k l ihl =>
        intro hl
        rw [List.foldr_cons,List.foldr_cons,ihl fun x hx=>hl x (List.mem_cons_of_mem _ hx),ih k (hl k List.mem_cons_self) (hr k (hl k List.mem_cons_self))]
    exact key p.kids fun _ h=>h
  · funext w
    rw [za1 (.inr hk),hk,zkF,zcv hk,List.map_map]
    congr 1
    exact List.map_congr_left fun k hkm=>by show backT L F (normal k) w=_;rw [ih k hkm (hr k hkm)]
  · obtain ⟨⟨k,hkk,hkr⟩,q1,q2,q3⟩:=zaI h hk
    have hb:=ih k (by rw [hkk];exact List.mem_cons_self) hkr
    funext w
    rw [zbk hk hkk,zef,zfa,ziL,zcf hk hkk]
    have hm:(moreP p (normal k)).foldr (fun k w=>backT L F k w) w=upV (backT L F k) 0 (moreN L p) w:=by
      unfold moreP moreN
      split
      · show backT L F (quantP (normal k) (-1)) w=_;rw [zlb,hb]
      · split
        · show backT L F (tailP (normal k) _) w=_
          rw [zhG,hb];congr 1;omega
        · rw [show p.max.toNat - p.min.toNat=0 by omega];rfl
    rw [hm,hb,zlP (zen k)]
end
end Go.Proofs.YtiplihojmfbjkaaGreat
