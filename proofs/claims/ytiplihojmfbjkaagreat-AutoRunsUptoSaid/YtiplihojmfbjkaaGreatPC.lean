/- Derivations of a pattern over a path,counted forward,are as many as from behind,in plain Lean. No program in sight. -/
import Derived.Test.YtiplihojmfbjkaaGreatQ6
import Derived.Test.YtiplihojmfbjkaaGreatMV
import Derived.Test.YtiplihojmfbjkaaGreatGR
import Derived.Test.YtiplihojmfbjkaaGreatQ4
import Derived.Test.YtiplihojmfbjkaaGreatWM
set_option maxRecDepth 100000
set_option maxHeartbeats 4000000
namespace Go.Proofs.YtiplihojmfbjkaaGreat
open Go.RowKit
def moreC (L:Nat) (p:Pt):Nat:=if p.max < 0 then L else min (p.max.toNat - p.min.toNat) L
def fwdT (L:Nat) (F:Pt→Nat→Bool):Pt→Vec→Vec:=foldP fun p ks v =>
  if p.kind=1 then fun i=>if F p i=true then v i else 0
  else if p.kind=2 then fun i=>if 0 < i∧i≤L∧F p (i - 1)=true then v (i - 1) else 0
  else if p.kind=3 then ks.foldl (fun v k=>k v) v
  else if p.kind=4 then sumV (ks.map fun k=>k v)
  else if p.kind=5 then match ks with
    | []=>zeroV0
    | k :: _=>upV k p.min.toNat (moreC L p) v
  else zeroV0
section
variable {L:Nat} {F:Pt→Nat→Bool}
theorem zdV (p:Pt) (v:Vec):fwdT L F p v=if p.kind=1 then fun i=>if F p i=true then v i else 0
  else if p.kind=2 then fun i=>if 0 < i∧i≤L∧F p (i - 1)=true then v (i - 1) else 0
  else if p.kind=3 then (p.kids.map (fwdT L F)).foldl (fun v k=>k v) v
  else if p.kind=4 then sumV ((p.kids.map (fwdT L F)).map fun k=>k v)
  else if p.kind=5 then match p.kids.map (fwdT L F) with
    | []=>zeroV0
    | k :: _=>upV k p.min.toNat (moreC L p) v
  else zeroV0:=by
  unfold fwdT;rw [zaV]
theorem zih {p:Pt} (h:p.kind=1) (v:Vec):fwdT L F p v=fun i=>if F p i=true then v i else 0:=by rw [zdV,if_pos h]
theorem ziR {p:Pt} (h:p.kind=2) (v:Vec):fwdT L F p v=fun i=>if 0 < i∧i≤L∧F p (i - 1)=true then v (i - 1) else 0:=by rw [zdV,if_neg (by omega),if_pos h]
theorem zj1 {p:Pt} (h:p.kind=3) (v:Vec):fwdT L F p v=p.kids.foldl (fun v k=>fwdT L F k v) v:=by rw [zdV,if_neg (by omega),if_neg (by omega),if_pos h,List.foldl_map]
theorem zj0 {p:Pt} (h:p.kind=4) (v:Vec):fwdT L F p v=sumV (p.kids.map fun k=>fwdT L F k v):=by rw [zdV,if_neg (by omega),if_neg (by omega),if_neg (by omega),if_pos h,List.map_map];rfl
theorem zhI {p k:Pt} (h:p.kind=5) (hk:p.kids=[k]) (v:Vec):fwdT L F p v=upV (fwdT L F k) p.min.toNat (moreC L p) v:=by
  rw [zdV,if_neg (by omega),if_neg (by omega),if_neg (by omega),if_neg (by omega),if_pos h,hk];rfl
def innV (L:Nat) (u w:Vec):Nat:=((List.range (L+1)).map fun i=>u i * w i).sum
theorem zeV {u u' w w':Vec} (h:∀ i,i≤L→u i * w i=u' i * w' i):innV L u w=innV L u' w':=by
  unfold innV
  congr 1
  exact List.map_congr_left fun i hi=>h i (by have:=List.mem_range.1 hi;omega)
theorem zgU {α:Type} (f g:α→Nat):∀ l:List α,(l.map fun x=>f x+g x).sum=(l.map f).sum+(l.map g).sum
  | []=>rfl
  | x :: l=>by simp only [List.map_cons,List.sum_cons,zgU f g l];omega
theorem zmR (u v w:Vec):innV L (addV u v) w=innV L u w+innV L v w:=by
  unfold innV
  rw [← zgU]
  congr 1
  exact List.map_congr_left fun i _=>Nat.add_mul _ _ _
theorem znm (u v w:Vec):innV L u (addV v w)=innV L u v+innV L u w:=by
  unfold innV
  rw [← zgU]
  congr 1
  exact List.map_congr_left fun i _=>Nat.mul_add _ _ _
theorem zhl (w:Vec):innV L zeroV0 w=0:=by
  unfold innV
  have:∀ l:List Nat,(l.map fun i=>zeroV0 i * w i).sum=0:=fun l=>by
    induction l with
    | nil=>rfl
    | cons x l ih=>rw [List.map_cons,List.sum_cons,ih];show 0 * w x+0=0;rw [Nat.zero_mul]
  exact this _
theorem zli (u:Vec):innV L u zeroV0=0:=by
  rw [← zhl (L:=L) u]
  exact zeV fun i _=>Nat.mul_comm _ _
theorem zhi (f:Nat→Nat):∀ n,((List.range (n+1)).map f).sum=f 0+((List.range n).map fun i=>f (i+1)).sum:=fun n=>by
  rw [List.range_succ_eq_map,List.map_cons,List.sum_cons,List.map_map];rfl
theorem zh6 (f:Nat→Nat) (n:Nat):((List.range (n+1)).map f).sum=((List.range n).map f).sum+f n:=by
  rw [List.range_succ,List.map_append,List.sum_append];simp
def Adj (L:Nat) (f g:Vec→Vec):Prop:=∀ v w,innV L (f v) w=innV L v (g w)
theorem Adj.comp {f g f' g':Vec→Vec} (h:Adj L f g) (h':Adj L f' g'):Adj L (fun v=>f' (f v)) (fun w=>g (g' w)):=fun v w=>by rw [h',h]
theorem Adj.add {f g f' g':Vec→Vec} (h:Adj L f g) (h':Adj L f' g'):Adj L (fun v=>addV (f v) (f' v)) (fun w=>addV (g w) (g' w)):=fun v w=>by rw [zmR,znm,h,h']
theorem Adj.pow {f g:Vec→Vec} (h:Adj L f g):∀ n,Adj L (powV f n) (powV g n)
  | 0=>fun _ _=>rfl
  | n+1=>fun v w=>by
    show innV L (f (powV f n v)) w=_
    rw [h,h.pow n,zfM g 1 n];rfl
theorem Adj.up {f g:Vec→Vec} (h:Adj L f g) (least:Nat):∀ n,Adj L (upV f least n) (upV g least n)
  | 0=>h.pow least
  | n+1=>(h.up least n).add (h.pow _)
theorem zjG:∀ l:List Pt,(∀ k∈l,Adj L (fwdT L F k) (backT L F k))→Adj L (fun v=>l.foldl (fun v k=>fwdT L F k v) v) (fun w=>l.foldr (fun k w=>backT L F k w) w)
  | [],_=>fun _ _=>rfl
  | k :: l,h=>(h k List.mem_cons_self).comp (zjG l fun x hx=>h x (List.mem_cons_of_mem _ hx))
theorem zjL:∀ l:List Pt,(∀ k∈l,Adj L (fwdT L F k) (backT L F k))→Adj L (fun v=>sumV (l.map fun k=>fwdT L F k v)) (fun w=>sumV (l.map fun k=>backT L F k w))
  | [],_=>fun v w=>by show innV L zeroV0 w=innV L v zeroV0;rw [zhl,zli]
  | k :: l,h=>(h k List.mem_cons_self).add (zjL l fun x hx=>h x (List.mem_cons_of_mem _ hx))
theorem zmf {p:Pt} (h:endsP p=true):∀ k∈p.kids,endsP k=true:=by
  rw [zez,Bool.and_eq_true,List.all_eq_true] at h;exact h.2
theorem zk2 {p k:Pt} (h:endsP p=true) (hk:p.kind=5) (hkk:p.kids=[k]):0 < (lenP k).low:=by
  rw [zez,Bool.and_eq_true] at h
  have h:=h.1
  unfold endB at h
  rw [hkk,hk] at h
  simpa using h
theorem zov:∀ p:Pt,rightP p=true→endsP p=true→Adj L (fwdT L F p) (backT L F p):=Pt.ind fun p ih h he=>by
  have hr:=zaF h
  have hek:=zmf he
  rcases za7 h with h1|h2|h3|h4|h5
  · intro v w
    rw [zih h1,zdt h1]
    refine zeV fun i _=>?_
    split
    · rfl
    · rw [Nat.zero_mul,Nat.mul_zero]
  · intro v w
    rw [ziR h2,zds h2]
    unfold innV
    rw [zhi,zh6]
    show (if 0 < 0∧0≤L∧F p (0 - 1)=true then v (0 - 1) else 0) * w 0+(List.map (fun i=>(if 0 < i+1∧i+1≤L∧F p (i+1 - 1)=true then v (i+1 - 1) else 0) * w (i+1)) (List.range L)).sum=(List.map (fun i=>v i * (if i < L∧F p i=true then w (i+1) else 0)) (List.range L)).sum+v L * (if L < L∧F p L=true then w (L+1) else 0)
    rw [if_neg (fun q=>by omega),if_neg (fun q=>by omega),Nat.zero_mul,Nat.mul_zero,Nat.zero_add,Nat.add_zero]
    congr 1
    refine List.map_congr_left fun i hi=>?_
    have hi:=List.mem_range.1 hi
    rw [Nat.add_sub_cancel]
    cases hf:F p i with
    | true=>rw [if_pos ⟨by omega,by omega,rfl⟩,if_pos ⟨hi,rfl⟩]
    | false=>rw [if_neg (fun q=>by cases q.2.2),if_neg (fun q=>by cases q.2),Nat.zero_mul,Nat.mul_zero]
  · rw [show fwdT L F p=_ from funext fun w=>zj1 h3 w,show backT L F p=_ from funext fun w=>zcu h3 w]
    exact zjG p.kids fun k hk=>ih k hk (hr k hk) (hek k hk)
  · rw [show fwdT L F p=_ from funext fun w=>zj0 h4 w,show backT L F p=_ from funext fun w=>zcv h4 w]
    exact zjL p.kids fun k hk=>ih k hk (hr k hk) (hek k hk)
  · obtain ⟨⟨k,hkk,hkr⟩,q1,q2,q3⟩:=zaI h h5
    have hmem:k∈p.kids:=by rw [hkk];exact List.mem_cons_self
    have hb:=ih k hmem hkr (hek k hmem)
    have ha:=zda (L:=L) (F:=F) k hkr
    unfold lowD at ha
    rw [if_pos (zk2 he h5 hkk)] at ha
    intro v w
    rw [zhI h5 hkk,zcf h5 hkk,hb.up]
    refine zeV fun i hi=>?_
    congr 1
    have hm:moreC L p=moreN L p∨(L≤moreC L p∧moreC L p≤moreN L p):=by
      unfold moreC moreN;split<;>omega
    rcases hm with e | ⟨e1,e2⟩
    · rw [e]
    · exact (zjV (zen k) ha p.min.toNat w hi _ _ e1 e2).symm
def oneV (i:Nat):Vec:=fun j=>if j=i then 1 else 0
def startV:Vec:=fun i=>if i=0 then 1 else 0
theorem zlo (w:Vec):innV L startV w=w 0:=by
  unfold innV
  rw [zhi]
  have:((List.range L).map fun i=>startV (i+1) * w (i+1)).sum=0:=by
    have:∀ l:List Nat,(l.map fun i=>startV (i+1) * w (i+1)).sum=0:=fun l=>by
      induction l with
      | nil=>rfl
      | cons x l ih=>rw [List.map_cons,List.sum_cons,ih];show (if x+1=0 then 1 else 0) * _+0=0;rw [if_neg (by omega),Nat.zero_mul]
    exact this _
  rw [this];show 1 * w 0+0=w 0;omega
theorem zod (u:Vec):innV L u (endV L)=u L:=by
  unfold innV
  rw [zh6]
  have:((List.range L).map fun i=>u i * endV L i).sum=0:=by
    have:∀ l:List Nat,(∀ x∈l,x < L)→(l.map fun i=>u i * endV L i).sum=0:=fun l=>by
      induction l with
      | nil=>intro _;rfl
      | cons x l ih =>
        intro hl
        rw [List.map_cons,List.sum_cons,ih fun y hy=>hl y (List.mem_cons_of_mem _ hy)]
        have:=hl x List.mem_cons_self
        show u x * (if x=L then 1 else 0)+0=0
        rw [if_neg (by omega),Nat.mul_zero]
    exact this _ fun x hx=>List.mem_range.1 hx
  rw [this];show 0+u L * (if L=L then 1 else 0)=u L;rw [if_pos rfl];omega
theorem znt {p:Pt} (h:rightP p=true) (he:endsP p=true):fwdT L F p startV L=backT L F p (endV L) 0:=by
  rw [← zod (L:=L) (fwdT L F p startV),zov p h he,zlo]
end
end Go.Proofs.YtiplihojmfbjkaaGreat
namespace Go.Proofs.YtiplihojmfbjkaaGreat
open Go.RowKit
theorem CallsV.flat {P:Program} {f:FuncId} {args:List VV} {e:TypeId} {sz:Nat} {rows:List (List D)} (h:CallsV P f args (.own e sz rows)):CallsV P f args (.val (vL rows)) :=
  ⟨h.ent,fun S w vs ha hlt=>(h.out S w vs ha hlt).mono fun _ _ ⟨v,S',h1,h2,h3,h4,h5⟩=>⟨v,S',h1,h2,h3,h4,fun _ _=>.one h5.1⟩⟩
def encDv (g:Gr) (ns es:List Int) (fit:List (List Bool)):List D:=[.sl (g.nodes.map encNd),.sl (g.edges.map encEd),.sl (ns.map encI),.sl (es.map encI),.sl (fit.map encR)]
def encPa (p:Pt) (i:Int):List D:=encP p++[.v (.int .i64 i)]
theorem zbK (p:Pt) (i:Int):(encPa p i).length=21:=by unfold encPa;simp [zan]
theorem zjy {i:TyI} (p:Pt) (n:Int) (ha:i.agg=true:=by rfl) (hs:i.size=20:=by rfl):loadA i (encPa p n) 0=some (.dat (encP p)):=by
  unfold loadA encPa
  rw [if_pos ha,if_neg (fun h=>by have h2:=h.2;rw [List.length_append,zan,hs] at h2;cases h2),if_pos (by rw [List.length_append,zan,hs];show 0+20≤20+1;decide),hs]
  show some (VV.dat (((encP p++[_]).drop 0).take 20))=_
  rw [List.drop_zero,List.take_left' (zan p)]
section
variable {w0:W0} {S0:Nat→Nat→Prop} {nt:Nat} {fr fr1:Fr} {σ σ1:Obs} {o:Oper} {ops:Array Oper} {rest:List Oper} {Q:Fr→Obs→Prop} {d k:Nat} {t ty:TypeId} {p xx:Operand} {i:TyI} {x:VV} {cs:List D} {τ0 σB:Obs} {K:List Cr} {C:Cons} {QD:Fr→Obs→Prop} {j:Nat} {pt:Pt} {n:Int}
theorem uLa {off:Nat} (h:RL (cx nt w0 S0) ops rest ((d,x) :: fr) σ Q) (ho:o.op=.load t p:=by rfl) (hw:wantA ops o fr=some true:=by rfl) (hdst:o.dst=some d:=by rfl) (hd:Nat.blt d nt=true:=by rfl) (hp:ev fr p=some (.one (.po k off)):=by rfl) (hk:look σ k=some (.box ty (encPa pt n)):=by rfl) (hi:Ty t=some i:=by rfl) (hl:loadA i (encPa pt n) off=some x:=by first|exact zjy _ _|(unfold encPa;rw [zaM];rfl)):RL (cx nt w0 S0) ops (o :: rest) fr σ Q :=
  uL1 h ho hw hdst hd hp hk hi hl
theorem mLa {off:Nat} (h:DSeq (cx nt w0 S0) ops τ0 σB QD (j+1) K C rest ((d,x) :: fr)) (ho:o.op=.load t p:=by rfl) (hw:wantA ops o (restr ops o fr)=some true:=by rfl) (hdst:o.dst=some d:=by rfl) (hd:Nat.blt d nt=true:=by rfl) (hp:ev (restr ops o fr) p=some (.one (.po k off)):=by rfl) (hk:look σB k=some (.box ty (encPa pt n)):=by rfl) (hi:Ty t=some i:=by rfl) (hl:loadA i (encPa pt n) off=some x:=by first|exact zjy _ _|(unfold encPa;rw [zaM];rfl)) (hm:MenOk o K x:=by (repeat (first|exact zax _ _|refine zau (by first|exact Or.inl rfl|exact Or.inr rfl) ?_))):DSeq (cx nt w0 S0) ops τ0 σB QD j K C (o :: rest) fr :=
  mL1 h ho hw hdst hd hp hk hi hl hm
theorem uLwA (h:RL (cx nt w0 S0) ops rest ((d,.dat (encPa pt n)) :: fr) σ Q) (ho:o.op=.load t p:=by rfl) (hw:wantA ops o fr=some true:=by rfl) (hdst:o.dst=some d:=by rfl) (hd:Nat.blt d nt=true:=by rfl) (hp:ev fr p=some (.one (.po k 0)):=by rfl) (hk:look σ k=some (.box ty (encPa pt n)):=by rfl) (hi:Ty t=some i:=by rfl) (ha:i.agg=true:=by rfl) (hl:(encPa pt n).length=i.size:=by exact zbK _ _):RL (cx nt w0 S0) ops (o :: rest) fr σ Q :=
  uLb h ho hw hdst hd hp hk hi ha hl
theorem uBxA (h:RL (cx nt w0 S0) ops rest ((d,.one (.po d 0)) :: fr1) ((d,.box t (encPa pt n)) :: σ1) Q) (ho:o.op=.box t xx:=by rfl) (hw:wantA ops o fr=some true:=by rfl) (hdst:o.dst=some d:=by rfl) (hd:Nat.blt d nt=true:=by rfl) (hx:ev (stripF d fr) xx=some (.dat (encPa pt n)):=by rfl) (hi:Ty t=some i:=by rfl) (ha:i.agg=true:=by rfl) (hl:(encPa pt n).length=i.size:=by exact zbK _ _)
    (hf:stripF d fr=fr1:=by exact strxA) (hs:stripS d σ=σ1:=by exact strxA):RL (cx nt w0 S0) ops (o :: rest) fr σ Q :=
  uBx h ho hw hdst hd hx hi ha hl hf hs
theorem uLqA (h:RL (cx nt w0 S0) ops rest ((d,.dat (encPa pt n)) :: fr) σ Q) (ho:o.op=.load t p:=by rfl) (hw:wantA ops o fr=some true:=by rfl) (hdst:o.dst=some d:=by rfl) (hd:Nat.blt d nt=true:=by rfl) (h1:ev fr p=some (.one (.d (.pi (encPa pt n)))):=by rfl) (h2:Ty t=some i:=by rfl) (ha:i.agg=true:=by rfl) (hl:(encPa pt n).length=i.size:=by exact zbK _ _):RL (cx nt w0 S0) ops (o :: rest) fr σ Q :=
  uLp h ho hw hdst hd h1 h2 ha hl
end
def rowV (v:Vec) (n:Nat):List Int:=rowF (fun x=>capN (v x.toNat)) n
theorem zaB (v:Vec) (n:Nat):(rowV v n).length=n:=zex _ n
theorem zdp {v:Vec} {n i:Nat} (h:i < n):(rowV v n)[i]?=some ((capN (v i):Nat):Int):=by
  unfold rowV;rw [zfJ h,Int.toNat_natCast]
theorem zbP {u v:Vec} {n:Nat} (h:∀ i,i < n→capN (u i)=capN (v i)):rowV u n=rowV v n:=zf5 fun i h0 h1=>h i.toNat (by omega)
theorem zcB (n:Nat):List.replicate n [D.v (.int .i64 0)]=(rowV zeroV0 n).map encI:=by
  have:rowV zeroV0 n=rowF (fun _=>0) n:=rfl
  rw [this]
  unfold rowF
  rw [List.map_map,show (encI ∘ fun i:Nat=>(((fun _:Int=>(0:Nat)) (i:Int):Nat):Int))=fun _=>[D.v (.int .i64 0)] from rfl,List.map_const']
  simp
theorem zkU {l:List Int} {k:Nat} (b:Int) (hk:k < l.length):(l.map encI).take (0+k)++[[.v (.int .i64 b)]]++(l.map encI).drop (0+k+1)=(l.set k b).map encI:=by
  rw [Nat.zero_add,List.map_set,List.set_eq_take_append_cons_drop,if_pos (by rw [List.length_map];exact hk),List.append_assoc];rfl
theorem zfQ {u v:Vec} {n i c:Nat} (h:i < n) (hc:c=capN (v i)) (hne:∀ j,j < n→j≠i→capN (u j)=capN (v j)):(rowV u n).set i (c:Int)=rowV v n:=by
  unfold rowV
  rw [zmx h]
  refine zf5 fun x h0 h1=>?_
  by_cases e:x=(i:Int)
  · rw [if_pos e,e,Int.toNat_natCast,hc]
  · rw [if_neg e];exact hne x.toNat (by omega) (by omega)
theorem zkx (a b:Vec) (n:Nat) (hn:n≤1000000):CallsM Tryz.prog 132 [.one (.win 1001 0 n n 1),vL ((rowV b n).map encI),vI 1] [(1001,.arr 3 1 ((rowV a n).map encI))] (.tup []) [(1001,.arr 3 1 ((rowV (addV a b) n).map encI))]:=by
  have hlb:((rowV b n).map encI).length=n:=by rw [List.length_map,zaB]
  have hlb2:=zaB b n
  (refine zav (Ty:=Ty) zad Tryz.func132 rfl rfl rfl (by rfl) fun w0 S0 hp=>?_;refine enA ?_)
  repeat' (first|refine nx ?_|(refine nx2 ?_ ?_<;>intro hb))
  refine zay (α:=Nat) (fun i=>[(0,.one (.win 1001 0 n n 1)),(1,vL ((rowV b n).map encI)),(2,vI 1),(8,vI (((rowV b n).map encI).length:Int)),(9,vI i)]) (fun i=>[(1001,.arr 3 1 ((rowV (fun j=>if j < i then a j+b j else a j) n).map encI))]) (fun i=>i≤n) (fun i=>n - i) 0 (Nat.zero_le _) subA (by simp only [Nat.not_lt_zero,if_false];exact subA) ?_
  intro i hi
  by_cases hlt:i < n
  · obtain ⟨A,hA⟩:∃ A:Vec,A=fun j=>if j < i then a j+b j else a j:=⟨_,rfl⟩
    obtain ⟨B,hB⟩:∃ B:Vec,B=fun j=>if j < i+1 then a j+b j else a j:=⟨_,rfl⟩
    have hAi:A i=a i:=by rw [hA];exact if_neg (Nat.lt_irrefl _)
    have hBi:B i=a i+b i:=by rw [hB];exact if_pos (Nat.lt_succ_self _)
    have hne:∀ j,j < n→j≠i→capN (A j)=capN (B j):=fun j _ hj=>by
      rw [hA,hB]
      dsimp only
      by_cases h:j < i
      · rw [if_pos h,if_pos (by omega)]
      · rw [if_neg h,if_neg (by omega)]
    rw [← hA]
    have h1:((rowV A n).map encI)[0+((i:Int)).toNat]?=some [.v (.int .i64 ((capN (a i):Nat):Int))]:=by
      rw [Nat.zero_add,Int.toNat_natCast,List.getElem?_map,zdp hlt,hAi];rfl
    have h2:((rowV b n).map encI)[i]?=some (encI ((capN (b i):Nat):Int)):=by rw [List.getElem?_map,zdp hlt];rfl
    have q1:=zeI (a i)
    have q2:=zeI (b i)
    have hm1:(if (1001:Int) < ((capN (a i):Nat):Int)+1 * ((capN (b i):Nat):Int) then (1001:Int) else ((capN (a i):Nat):Int)+1 * ((capN (b i):Nat):Int))=((capN (B i):Nat):Int):=by
      rw [hBi];unfold capN at q1 q2 ⊢;split<;>omega
    have hu:((rowV A n).map encI).take (0+((i:Int)).toNat)++[[.v (.int .i64 ((capN (B i):Nat):Int))]]++((rowV A n).map encI).drop (0+((i:Int)).toNat+1)=(rowV B n).map encI:=by
      rw [Int.toNat_natCast,zkU _ (by rw [zaB];exact hlt),zfQ hlt rfl hne]
    repeat' (first|(refine isRL ?_;first|refine uWix ?_|refine uPev _ ?_ (hrows:=hu) (hm:=by rw [List.length_map,zaB,Int.toNat_natCast,Nat.zero_add];exact hlt))|(refine isD ?_;first|refine mWix ?_|refine mPelv _ ?_ h1|refine mMinY hm1 ?_)|refine nx ?_|(refine nx2 ?_ ?_<;>intro hb))
    exact ⟨i+1,by omega,by omega,subA,(by simp only [hB];exact subA)⟩
  · obtain rfl:i=n:=by omega
    have hfin:rowV (fun j=>if j < i then a j+b j else a j) i=rowV (addV a b) i:=zbP fun j hj=>by rw [if_pos hj];rfl
    rw [hfin]
    repeat' (first|refine nx ?_|(refine nx2 ?_ ?_<;>intro hb))
    exact zcZ (by rfl) rfl ghasA
theorem zpf (g:Gr) (ns es:List Int) (fit:List (List Bool)) (i n:Nat) (hn:ns.length=n) (hi:i < n) (hb:n≤1000000):CallsV Tryz.prog 83 [.dat (encDv g ns es fit),vI i] (.own 3 1 ((rowV (oneV i) n).map encI)):=by
  have hln:(ns.map encI).length=n:=by rw [List.length_map,hn]
  have hu:((rowV zeroV0 n).map encI).take (0+((i:Int)).toNat)++[[.v (.int .i64 1)]]++((rowV zeroV0 n).map encI).drop (0+((i:Int)).toNat+1)=(rowV (oneV i) n).map encI:=by
    rw [Int.toNat_natCast,zkU _ (by rw [zaB];exact hi)]
    rw [show (1:Int)=((1:Nat):Int) from rfl,zfQ (v:=oneV i) hi (by unfold oneV;rw [if_pos rfl];rfl) fun j _ hj=>by unfold oneV;rw [if_neg hj];rfl]
  have h0:=zaB (oneV i) n
  unfold encDv
  (refine zaa (Ty:=Ty) zad Tryz.func83 rfl rfl rfl fun w0 S0=>?_;refine enA ?_)
  iterate 12 (first|refine uMk n ?_|refine nx ?_)
  rw [zcB]
  iterate 10 (first|(refine isRL ?_;first|refine uWix ?_|refine uPev _ ?_ (hrows:=hu) (hm:=by rw [List.length_map,zaB,Int.toNat_natCast,Nat.zero_add];exact hi))|refine nx ?_)
  refine uArrTok (n:=n) (rows:=(rowV (oneV i) n).map encI) 5 10 ?_ (by rw [List.length_map,zaB]) (by rw [List.length_map,zaB];omega)
  repeat' refine nx ?_
  exact zbZ (by rfl) (by rfl) rfl
theorem zpD (g:Gr) (ns es:List Int) (fit:List (List Bool)) (p:Pt) (at_:Nat) (i:Nat) {x:Int} {r:List Bool} {b:Bool} (hk:p.kind=1) (hr:fit[at_]?=some r) (hx:ns[i]?=some x) (h0:0≤x) (hb:r[x.toNat]?=some b) (hi:i≤1000000):CallsV Tryz.prog 131 [.dat (encDv g ns es fit),.dat (encPa p at_),vI i] (.val (.tup [vI i,vB b])):=by
  unfold encDv
  (refine zaa (Ty:=Ty) zad Tryz.func131 rfl rfl rfl fun w0 S0=>?_;refine enA ?_)
  repeat' (first|(refine isRL ?_;first|refine uBxA ?_|refine uLa ?_)|refine mLa ?_|refine nx ?_|(refine nx2 ?_ ?_<;>intro hb))
  exact zab (by rfl) rfl
theorem zpg (g:Gr) (ns es:List Int) (fit:List (List Bool)) (p:Pt) (at_:Nat) (i:Nat) (hk:p.kind≠1) (hi:es.length≤i):CallsV Tryz.prog 131 [.dat (encDv g ns es fit),.dat (encPa p at_),vI i] (.val (.tup [vI 0,vB false])):=by
  have hle:(es.map encI).length=es.length:=List.length_map _
  unfold encDv
  (refine zaa (Ty:=Ty) zad Tryz.func131 rfl rfl rfl fun w0 S0=>?_;refine enA ?_)
  repeat' (first|(refine isRL ?_;first|refine uBxA ?_|refine uLa ?_)|refine mLa ?_|refine nx ?_|(refine nx2 ?_ ?_<;>intro hb))
  exact zab (by rfl) rfl
theorem zpM (g:Gr) (ns es:List Int) (fit:List (List Bool)) (p:Pt) (at_:Nat) (i:Nat) {e x y:Int} {r:List Bool} {b:Bool} (hk:p.kind≠1) (hr:fit[at_]?=some r) (he:es[i]?=some e) (hx:ns[i]?=some x) (hy:ns[i+1]?=some y) (h0:0≤e) (hb:r[e.toNat]?=some b) (hi:i≤1000000):CallsV Tryz.prog 131 [.dat (encDv g ns es fit),.dat (encPa p at_),vI i] (.val (.tup [vI (i+1),vB (b&&((IntKind.i64.wrap ((BitVec.ofInt IntKind.i64.bits p.dir &&& BitVec.ofInt IntKind.i64.bits (alongF g e x y)).toNat:Nat)) != 0))])):=by
  have hle:(es.map encI).length=es.length:=List.length_map _
  have hlt:=(List.getElem?_eq_some_iff.1 he).1
  have hA:=zgE g e x y
  have hyi:(ns.map encI)[((i:Int)+1).toNat]?=some (encI y):=by rw [show ((i:Int)+1).toNat=i+1 by omega,List.getElem?_map,hy];rfl
  have hcm:(IntKind.i64.wrap ((BitVec.ofInt IntKind.i64.bits (alongF g e x y) &&& BitVec.ofInt IntKind.i64.bits p.dir).toNat:Nat))=(IntKind.i64.wrap ((BitVec.ofInt IntKind.i64.bits p.dir &&& BitVec.ofInt IntKind.i64.bits (alongF g e x y)).toNat:Nat)):=by rw [BitVec.and_comm]
  unfold encG at hA
  unfold encDv
  cases b with
  | false =>
    (refine zaa (Ty:=Ty) zad Tryz.func131 rfl rfl rfl fun w0 S0=>?_;refine enA ?_)
    repeat' (first|(refine isRL ?_;first|refine uBxA ?_|refine uLa ?_|refine uC (hA) ?_)|(refine isD ?_;first|refine mLa ?_|refine mL1 ?_|refine mC (hA) ?_)|refine nx ?_|(refine nx2 ?_ ?_<;>intro hb))
    exact zab (by rfl) rfl
  | true =>
    rw [← hcm,Bool.true_and]
    (refine zaa (Ty:=Ty) zad Tryz.func131 rfl rfl rfl fun w0 S0=>?_;refine enA ?_)
    repeat' (first|(refine isRL ?_;first|refine uBxA ?_|refine uLa ?_|refine uC (hA) ?_)|(refine isD ?_;first|refine mLa ?_|refine mL1 ?_|refine mC (hA) ?_)|refine nx ?_|(refine nx2 ?_ ?_<;>intro hb))
    exact zab (by rfl) rfl
end Go.Proofs.YtiplihojmfbjkaaGreat
namespace Go.Proofs.YtiplihojmfbjkaaGreat
open Go.RowKit
section
variable {w0:W0} {S0:Nat→Nat→Prop} {nt:Nat} {fr:Fr} {σ:Obs} {o:Oper} {ops:Array Oper} {rest:List Oper} {Q:Fr→Obs→Prop} {d:Nat} {t:TypeId} {i:TyI} {ds:List D} {ps:Array (Nat × Operand)} {τ0 σB:Obs} {K:List Cr} {C:Cons} {QD:Fr→Obs→Prop} {j:Nat}
theorem uBdA (p:Pt) (n:Int) (h:RL (cx nt w0 S0) ops rest ((d,.dat (encPa p n)) :: fr) σ Q) (ho:o.op=.build t ps:=by rfl) (hw:wantA ops o fr=some true:=by rfl) (hdst:o.dst=some d:=by rfl) (hd:Nat.blt d nt=true:=by rfl) (hi:Ty t=some i:=by rfl) (ht:i.tag=1:=by rfl)
    (hl:layF i.places fr ps.toList (i.zero.map zc)=some ds:=by exact zaf (by rfl) (by rfl) (zan _) (by decide) (zaf (by rfl) (by rfl) (by rfl) (by rw [zaM];exact Nat.le_of_ble_eq_true rfl) (zaE _ _ _))) (hs:ds=encPa p n:=by (unfold encPa;rw [zaM];first|done|rfl)):RL (cx nt w0 S0) ops (o :: rest) fr σ Q :=
  uBd (cs:=encPa p n) h ho hw hdst hd hi ht hl hs
theorem mBdA (p:Pt) (n:Int) (h:DSeq (cx nt w0 S0) ops τ0 σB QD (j+1) K C rest ((d,.dat (encPa p n)) :: fr)) (ho:o.op=.build t ps:=by rfl) (hw:wantA ops o (restr ops o fr)=some true:=by rfl) (hdst:o.dst=some d:=by rfl) (hd:Nat.blt d nt=true:=by rfl) (hi:Ty t=some i:=by rfl) (ht:i.tag=1:=by rfl)
    (hl:layF i.places (restr ops o fr) ps.toList (i.zero.map zc)=some ds:=by exact zaf (by rfl) (by rfl) (zan _) (by decide) (zaf (by rfl) (by rfl) (by rfl) (by rw [zaM];exact Nat.le_of_ble_eq_true rfl) (zaE _ _ _))) (hs:ds=encPa p n:=by (unfold encPa;rw [zaM];first|done|rfl)) (hm:MenOk o K (.dat (encPa p n)):=by (repeat (first|exact zax _ _|refine zau (by first|exact Or.inl rfl|exact Or.inr rfl) ?_))):DSeq (cx nt w0 S0) ops τ0 σB QD j K C (o :: rest) fr :=
  mBd (cs:=encPa p n) h ho hw hdst hd hi ht hl hs hm
theorem uSwA {k:Nat} {ty:TypeId} {cs:List D} {p xx:Operand} {pt:Pt} {n:Int} (h:RL (cx nt w0 S0) ops rest fr ((k,.box ty (encPa pt n)) :: σ) Q) (ho:o.op=.store t p xx:=by rfl) (hw:wantA ops o fr=some true:=by rfl) (hdst:o.dst=none:=by rfl) (hp:ev fr p=some (.one (.po k 0)):=by rfl) (hk:look σ k=some (.box ty cs):=by rfl) (hx:ev fr xx=some (.dat (encPa pt n)):=by rfl) (hi:Ty t=some i:=by rfl) (hl:(encPa pt n).length=i.size:=by exact zbK _ _) (hl2:cs.length=i.size:=by rfl):RL (cx nt w0 S0) ops (o :: rest) fr σ Q :=
  uSw h ho hw hdst hp hk hx hi hl hl2
theorem uXA {z:Int} {pt:Pt} {n:Int} {xx ix:Operand} {rows:List (List D)} {e:TyI} (h:RL (cx nt w0 S0) ops rest ((d,.one (.d (.pi (encPa pt n)))) :: fr) σ Q) (hq:rows[z.toNat]?=some (encPa pt n)) (ho:o.op=.indexAddr t xx ix:=by rfl) (hw:wantA ops o fr=some true:=by rfl) (hdst:o.dst=some d:=by rfl) (hd:Nat.blt d nt=true:=by rfl)
    (h1:(ev fr xx).bind rowsV=some rows:=by rfl) (h2:(ev fr ix).bind intV=some z:=by rfl) (h3:Ty t=some i:=by rfl) (h4:Ty i.elem=some e:=by rfl) (htag:i.tag=2:=by rfl) (h0:0≤z:=by omega) (hl:(encPa pt n).length=e.size:=by exact zbK _ _):RL (cx nt w0 S0) ops (o :: rest) fr σ Q :=
  znN (X:=cx nt w0 S0) zad hw hdst hd ho h1 h2 h3 h4 htag hq h0 hl h
end
def kidsA:List Pt→Nat→List (Pt × Nat)
  | [],_=>[]
  | k :: l,n=>(k,n) :: kidsA l (n+(elems k).length)
theorem zcy:∀ (l:List Pt) (n:Nat),(kidsA l n).length=l.length
  | [],_=>rfl
  | k :: l,n=>by show (kidsA l _).length+1=_;rw [zcy l];rfl
theorem zeM:∀ (l m:List Pt) (n:Nat),kidsA (l++m) n=kidsA l n++kidsA m (n+(l.flatMap elems).length)
  | [],m,n=>by simp [kidsA]
  | k :: l,m,n=>by
    show (k,n) :: kidsA (l++m) _=(k,n) :: (kidsA l _++_)
    rw [zeM l m,List.flatMap_cons,List.length_append,Nat.add_assoc]
theorem zf0 {l:List Pt} {i:Nat} {k:Pt} (h:l[i]?=some k) (n:Nat):kidsA (l.take (i+1)) n=kidsA (l.take i) n++[(k,n+((l.take i).flatMap elems).length)]:=by
  obtain ⟨hlt,rfl⟩:=List.getElem?_eq_some_iff.1 h
  rw [List.take_succ_eq_append_getElem hlt,zeM];rfl
def encPan (x:Pt × Nat):List D:=encPa x.1 x.2
theorem zno (l:List (Pt × Nat)):sized 21 (l.map encPan)=true:=by unfold sized;rw [List.all_map];exact List.all_eq_true.2 fun x _=>by show (encPan x).length.beq 21=true;rw [show (encPan x).length=21 from zbK _ _];rfl
theorem zm6 (p:Pt) (n:Nat) (hn:n+(elems p).length≤1000000) (hk:p.kind≠1∧p.kind≠2) (hl:p.kids.length≤1000000):CallsV Tryz.prog 133 [.dat (encPa p n)] (.val (vL ((kidsA p.kids n).map encPan))):=by
  have hlk:(p.kids.map encP).length=p.kids.length:=List.length_map _
  have hel:elems p=p.kids.flatMap elems:=by rw [za5,if_neg];unfold isElem;simp [hk.1,hk.2]
  rw [hel] at hn
  (refine zaa (Ty:=Ty) zad Tryz.func133 rfl rfl rfl fun w0 S0=>?_;refine enA ?_)
  repeat' (first|(refine isRL ?_;first|refine uBxA ?_|refine uLa ?_)|refine nx ?_|(refine nx2 ?_ ?_<;>intro hb))
  refine uNil 3 300 152 21 ?_
  refine zay (α:=Nat) (fun i=>[(3,.one (.own 300 ((kidsA (p.kids.take i) n).map encPan))),(4,vI ((n+((p.kids.take i).flatMap elems).length:Nat):Int)),(11,vL (p.kids.map encP)),(12,vI ((p.kids.map encP).length:Int)),(13,vI i)]) (fun _=>[(300,.tok 152 21)]) (fun i=>i≤p.kids.length) (fun i=>p.kids.length - i) 0 (Nat.zero_le _) subA subA ?_
  intro i hi
  by_cases hlt:i < p.kids.length
  · obtain ⟨q,hq⟩:∃ q,p.kids[i]?=some q:=⟨_,List.getElem?_eq_getElem hlt⟩
    have hsum:((p.kids.take (i+1)).flatMap elems).length=((p.kids.take i).flatMap elems).length+(elems q).length:=by
      obtain ⟨h1,h2⟩:=List.getElem?_eq_some_iff.1 hq
      rw [List.take_succ_eq_append_getElem h1,h2,List.flatMap_append,List.length_append];simp
    have hle:((p.kids.take (i+1)).flatMap elems).length≤(p.kids.flatMap elems).length:=by
      conv=>rhs;rw [← List.take_append_drop (i+1) p.kids,List.flatMap_append,List.length_append]
      omega
    have hE:=zjz q (by omega)
    have hEl:((elems q).map encP).length=(elems q).length:=List.length_map _
    have hz:=zno (kidsA (p.kids.take i) n)
    have hzl:(kidsA (p.kids.take i) n).length≤1000000:=by rw [zcy,List.length_take];omega
    have hnx:(kidsA (p.kids.take i) n).map encPan++[encPa q ((n+((p.kids.take i).flatMap elems).length:Nat):Int)]=(kidsA (p.kids.take (i+1)) n).map encPan:=by rw [zf0 hq,List.map_append];rfl
    have hn1:((n+((p.kids.take (i+1)).flatMap elems).length:Nat):Int)=((n+((p.kids.take i).flatMap elems).length:Nat):Int)+(((elems q).map encP).length:Int):=by omega
    generalize hsm:((n+((p.kids.take i).flatMap elems).length:Nat):Int)=sm at hnx hn1 ⊢
    have hz1:sized 21 [encPa q sm]=true:=by show (((encPa q sm).length.beq 21)&&true)=true;rw [zbK];rfl
    have hsb:sm+(((elems q).map encP).length:Int)≤1000000:=by omega
    repeat' (first|(refine isRL ?_;first|refine uBdA q sm ?_|refine uBs ?_ (hr:=zaj (by rfl) (zbK _ _) (zaT _ _ _))|refine uAk ?_ (hr':=hnx)|refine uC (hE) ?_)|refine nx ?_|(refine nx2 ?_ ?_<;>intro hb))
    exact ⟨i+1,by omega,by omega,(by simp only [hn1];exact subA),subA⟩
  · obtain rfl:i=p.kids.length:=by omega
    rw [List.take_length]
    repeat' (first|refine nx ?_|(refine nx2 ?_ ?_<;>intro hb))
    exact zab (by rfl) rfl
end Go.Proofs.YtiplihojmfbjkaaGreat
