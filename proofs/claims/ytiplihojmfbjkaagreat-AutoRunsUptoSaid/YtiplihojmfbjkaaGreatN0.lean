/- Plain data of patterns,and what the program computes on them: folds,depth,size,lengths,what is right,made normal. No program in sight. -/
import Derived.Test.YtiplihojmfbjkaaGreatWE
namespace Go.Proofs.YtiplihojmfbjkaaGreat
open Go.RowKit
def zPt:Pt:=⟨0,⟨#[]⟩,0,zE,zE,0,0,[]⟩
mutual
def foldP {α:Type} (f:Pt→List α→α):Pt→α
  | ⟨k,v,d,l,w,mn,mx,ks⟩=>f ⟨k,v,d,l,w,mn,mx,ks⟩ (foldPs f ks)
def foldPs {α:Type} (f:Pt→List α→α):List Pt→List α
  | []=>[]
  | p :: l=>foldP f p :: foldPs f l
end
theorem zkY {α:Type} (f:Pt→List α→α) (l:List Pt):foldPs f l=l.map (foldP f):=by
  induction l with
  | nil=>rfl
  | cons p l ih=>rw [foldPs,ih,List.map_cons]
theorem zaV {α:Type} (f:Pt→List α→α) (p:Pt):foldP f p=f p (p.kids.map (foldP f)):=by
  cases p with|mk k v d l w mn mx ks=>rw [foldP,zkY]
mutual
def foldE {α:Type} (f:E→List α→α):E→α
  | ⟨k,n,v,l⟩=>f ⟨k,n,v,l⟩ (foldEs f l)
def foldEs {α:Type} (f:E→List α→α):List E→List α
  | []=>[]
  | p :: l=>foldE f p :: foldEs f l
end
theorem zkS {α:Type} (f:E→List α→α) (l:List E):foldEs f l=l.map (foldE f):=by
  induction l with
  | nil=>rfl
  | cons p l ih=>rw [foldEs,ih,List.map_cons]
theorem zfU {α:Type} (f:E→List α→α) (e:E):foldE f e=f e (e.kids.map (foldE f)):=by
  cases e with|mk k n v l=>rw [foldE,zkS]
theorem Pt.ind {P:Pt→Prop} (h:∀ p,(∀ k∈p.kids,P k)→P p):∀ p,P p
  | ⟨k,v,d,l,w,mn,mx,ks⟩=>h _ fun x _=>Pt.ind h x
termination_by p=>SizeOf.sizeOf p
decreasing_by
  have:=List.sizeOf_lt_of_mem (show x∈ks from by assumption)
  simp only [Pt.mk.sizeOf_spec]
  omega
def eqL (s t:ByteArray):Bool:=s.toList==t.toList
def opKids (s:ByteArray):Int :=
  if eqL s ⟨#[61]⟩ || (eqL s ⟨#[60,62]⟩ || (eqL s ⟨#[60]⟩ || (eqL s ⟨#[60,61]⟩ || (eqL s ⟨#[62]⟩ || (eqL s ⟨#[62,61]⟩ || (eqL s ⟨#[97,110,100]⟩ || (eqL s ⟨#[111,114]⟩ || (eqL s ⟨#[43]⟩ || (eqL s ⟨#[45]⟩ || (eqL s ⟨#[42]⟩)))))))))) then 2
  else if eqL s ⟨#[110,111,116]⟩ || eqL s ⟨#[105,115,110,117,108,108]⟩ then 1 else 0
def rightE:E→Bool:=foldE fun e ks =>
  if e.kind=1 then emptyS e.name&&e.kids.isEmpty&&valueRight e.val
  else if e.kind=2 then !emptyS e.name&&e.kids.isEmpty&&zeroV e.val
  else if e.kind=3 then zeroV e.val&&decide (opKids e.name > 0)&&decide (opKids e.name=(e.kids.length:Int))&&ks.all id
  else false
theorem zg6 (e:E):rightE e=if e.kind=1 then emptyS e.name&&e.kids.isEmpty&&valueRight e.val
  else if e.kind=2 then !emptyS e.name&&e.kids.isEmpty&&zeroV e.val
  else if e.kind=3 then zeroV e.val&&decide (opKids e.name > 0)&&decide (opKids e.name=(e.kids.length:Int))&&e.kids.all rightE
  else false:=by
  unfold rightE
  rw [zfU]
  simp only [List.all_map]
  rfl
def exprRight (e:E):Bool:=decide (depthE 50 e≤50)&&rightE e
def countE:E→Int:=foldE fun _ ks=>ks.foldl (fun n k=>IntKind.i64.wrap (n+k)) 1
theorem zlg (e:E):countE e=e.kids.foldl (fun n k=>IntKind.i64.wrap (n+countE k)) 1:=by
  unfold countE;rw [zfU,List.foldl_map]
def depthP:Nat→Pt→Nat
  | 0,_=>1
  | n+1,p=>p.kids.foldl (fun d k=>max d (depthP n k)) 0+1
theorem zfD (p:Pt):depthP 0 p=1:=by rw [depthP]
theorem zdK (n:Nat) (p:Pt):depthP (n+1) p=p.kids.foldl (fun d k=>max d (depthP n k)) 0+1:=by rw [depthP]
theorem ze3:∀ (n:Nat) (p:Pt),depthP n p≤n+1
  | 0,p=>by rw [zfD];omega
  | n+1,p=>by
    rw [zdK]
    have:=zdr (depthP n) (n+1) p.kids 0 (by omega) (fun x _=>ze3 n x)
    omega
def noneE (e:E):Bool:=e.kind==0&&(emptyS e.name&&(e.kids.isEmpty&&zeroV e.val))
def elemOK (p:Pt):Bool:=p.kids.isEmpty&&(noneE p.label || labelRight p.label)&&(noneE p.wher || exprRight p.wher)
def plainP (p:Pt):Bool:=p.min==0&&p.max==0
def bareP (p:Pt):Bool:=emptyS p.var&&(p.dir==0&&(noneE p.label&&noneE p.wher))
def quantOK (p:Pt):Bool:=decide (p.kids.length=1)&&(decide (0≤p.min)&&decide (p.min≤20))&&(p.max == -1 || (decide (1≤p.max)&&decide (p.min≤p.max)&&decide (p.max≤20)))
def rightP:Pt→Bool:=foldP fun p ks =>
  if p.kind=1 then plainP p&&p.dir==0&&elemOK p
  else if p.kind=2 then plainP p&&(decide (1≤p.dir)&&decide (p.dir≤7))&&elemOK p
  else if p.kind=3∨p.kind=4 then plainP p&&!p.kids.isEmpty&&bareP p&&ks.all id
  else if p.kind=5 then quantOK p&&bareP p&&ks.all id
  else false
theorem zbI (p:Pt):rightP p=if p.kind=1 then plainP p&&p.dir==0&&elemOK p
  else if p.kind=2 then plainP p&&(decide (1≤p.dir)&&decide (p.dir≤7))&&elemOK p
  else if p.kind=3∨p.kind=4 then plainP p&&!p.kids.isEmpty&&bareP p&&p.kids.all rightP
  else if p.kind=5 then quantOK p&&bareP p&&p.kids.all rightP
  else false:=by
  unfold rightP
  rw [zaV]
  simp only [List.all_map]
  rfl
def countP:Pt→Int:=foldP fun p ks=>ks.foldl (fun n k=>IntKind.i64.wrap (n+k)) (IntKind.i64.wrap (IntKind.i64.wrap (1+countE p.label)+countE p.wher))
theorem zl9 (p:Pt):countP p=p.kids.foldl (fun n k=>IntKind.i64.wrap (n+countP k)) (IntKind.i64.wrap (IntKind.i64.wrap (1+countE p.label)+countE p.wher)):=by
  unfold countP;rw [zaV,List.foldl_map]
def timesP (p:Pt):Nat:=if p.max < 0 then (p.min+1).toNat else p.max.toNat
def sizeN:Pt→Nat:=foldP fun p ks=>1+(ks.map fun s=>if p.kind=5 then (s+1) * timesP p else s).sum
theorem zet (p:Pt):sizeN p=1+(p.kids.map fun k=>if p.kind=5 then (sizeN k+1) * timesP p else sizeN k).sum:=by
  unfold sizeN;rw [zaV,List.map_map];rfl
def groupP (k:Int) (l:List Pt):Pt:=⟨k,⟨#[]⟩,0,zE,zE,0,0,l⟩
def quantP (p:Pt) (most:Int):Pt:=⟨5,⟨#[]⟩,0,zE,zE,0,most,[p]⟩
def openP (k:Int) (p:Pt):List Pt:=if p.kind=k then p.kids else [p]
def joinP (k:Int) (l:List Pt):Pt:=match l.flatMap (openP k) with
  | [p]=>p
  | kids=>groupP k kids
def tailP (p:Pt):Nat→Pt
  | 0=>quantP p 1
  | n+1=>quantP (joinP 3 [p,tailP p n]) 1
def moreP (p:Pt) (b:Pt):List Pt:=if p.max < 0 then [quantP b (-1)] else if p.min < p.max then [tailP b (p.max - p.min - 1).toNat] else []
def normal:Pt→Pt:=foldP fun p ks =>
  if p.kind=3∨p.kind=4 then joinP p.kind ks
  else if p.kind=5 then joinP 3 (List.replicate p.min.toNat (ks.headD zPt)++moreP p (ks.headD zPt))
  else p
theorem zdD (p:Pt):normal p=if p.kind=3∨p.kind=4 then joinP p.kind (p.kids.map normal)
  else if p.kind=5 then joinP 3 (List.replicate p.min.toNat ((p.kids.map normal).headD zPt)++moreP p ((p.kids.map normal).headD zPt))
  else p:=by
  unfold normal;rw [zaV]
def isElem (p:Pt):Bool:=p.kind==1 || p.kind==2
def elems:Pt→List Pt:=foldP fun p ks=>if isElem p=true then [p] else ks.flatten
theorem za5 (p:Pt):elems p=if isElem p=true then [p] else p.kids.flatMap elems:=by
  unfold elems;rw [zaV];rfl
end Go.Proofs.YtiplihojmfbjkaaGreat
namespace Go.Proofs.YtiplihojmfbjkaaGreat
open Go.RowKit
def nodesP:Pt→Nat:=foldP fun _ ks=>1+ks.sum
theorem zbl (p:Pt):nodesP p=1+(p.kids.map nodesP).sum:=by unfold nodesP;rw [zaV]
theorem zfE {α β:Type} (f:α→List β) (g:β→Nat):∀ l:List α,((l.flatMap f).map g).sum=(l.map fun x=>((f x).map g).sum).sum
  | []=>rfl
  | x :: l=>by rw [List.flatMap_cons,List.map_append,List.sum_append,zfE f g l,List.map_cons,List.sum_cons]
theorem zgq {α:Type} (f g:α→Nat):∀ l:List α,(∀ x∈l,f x≤g x)→(l.map f).sum≤(l.map g).sum
  | [],_=>Nat.le_refl _
  | x :: l,h=>by
    rw [List.map_cons,List.map_cons,List.sum_cons,List.sum_cons]
    exact Nat.add_le_add (h x List.mem_cons_self) (zgq f g l fun y hy=>h y (List.mem_cons_of_mem _ hy))
theorem zgG {α:Type} (f:α→Nat):∀ (l:List α) (x:α),x∈l→f x≤(l.map f).sum
  | y :: l,x,h=>by
    rw [List.map_cons,List.sum_cons]
    rcases List.mem_cons.1 h with rfl|h
    · omega
    · have:=zgG f l x h;omega
theorem zcq {α:Type} (f:α→Nat):∀ (l:List α),(∀ x∈l,1≤f x)→l.length≤(l.map f).sum
  | [],_=>Nat.le_refl _
  | x :: l,h=>by
    rw [List.map_cons,List.sum_cons,List.length_cons]
    have:=h x List.mem_cons_self
    have:=zcq f l fun y hy=>h y (List.mem_cons_of_mem _ hy)
    omega
theorem zd3 (p:Pt):1≤nodesP p:=by rw [zbl];omega
theorem zkk (k:Int) (p:Pt):((openP k p).map nodesP).sum≤nodesP p:=by
  unfold openP
  split
  · rw [zbl p];omega
  · simp
theorem zfz (k:Int) (l:List Pt):((l.flatMap (openP k)).map nodesP).sum≤(l.map nodesP).sum:=by
  rw [zfE];exact zgq _ _ l fun p _=>zkk k p
theorem zbq (k:Int) (l:List Pt):(∃ p,l.flatMap (openP k)=[p]∧joinP k l=p)∨((l.flatMap (openP k)).length≠1∧joinP k l=groupP k (l.flatMap (openP k))):=by
  unfold joinP
  cases h:l.flatMap (openP k) with
  | nil=>exact .inr ⟨by simp,rfl⟩
  | cons p r=>cases r with
    | nil=>exact .inl ⟨p,rfl,rfl⟩
    | cons q r=>exact .inr ⟨by simp,rfl⟩
theorem zjb (k:Int) (l:List Pt):nodesP (groupP k l)=1+(l.map nodesP).sum:=zbl _
theorem zcU (b:Pt) (m:Int):nodesP (quantP b m)=1+nodesP b:=by rw [zbl];simp [quantP]
theorem zer (k:Int) (l:List Pt):nodesP (joinP k l)≤1+(l.map nodesP).sum:=by
  have h:=zfz k l
  rcases zbq k l with ⟨p,h1,h2⟩ | ⟨_,h2⟩
  · rw [h1] at h;rw [h2];simp at h;omega
  · rw [h2,zjb];omega
theorem zep (b:Pt):∀ n:Nat,nodesP (tailP b n)≤(n+1) * (nodesP b+2)
  | 0=>by rw [tailP,zcU];omega
  | n+1=>by
    rw [tailP,zcU]
    have h1:=zer 3 [b,tailP b n]
    have h2:=zep b n
    simp only [List.map_cons,List.map_nil,List.sum_cons,List.sum_nil] at h1
    have:(n+1+1) * (nodesP b+2)=(n+1) * (nodesP b+2)+(nodesP b+2):=by rw [Nat.add_mul (n+1) 1,Nat.one_mul]
    omega
theorem zeD (n m:Nat):(List.replicate n m).sum=n * m:=by simp
theorem zaF {p:Pt} (h:rightP p=true):∀ k∈p.kids,rightP k=true:=by
  rw [zbI] at h
  intro k hk
  split at h
  · simp only [Bool.and_eq_true,elemOK,List.isEmpty_iff] at h
    rw [h.2.1.1] at hk;cases hk
  · split at h
    · simp only [Bool.and_eq_true,elemOK,List.isEmpty_iff] at h
      rw [h.2.1.1] at hk;cases hk
    · split at h
      · simp only [Bool.and_eq_true] at h
        exact List.all_eq_true.1 h.2 k hk
      · split at h
        · simp only [Bool.and_eq_true] at h
          exact List.all_eq_true.1 h.2 k hk
        · cases h
theorem zci {p:Pt} (h:rightP p=true) (hk:p.kind=1∨p.kind=2):p.kids=[]:=by
  rw [zbI] at h
  rcases hk with hk|hk
  · rw [if_pos hk] at h
    simp only [Bool.and_eq_true,elemOK,List.isEmpty_iff] at h
    exact h.2.1.1
  · rw [if_neg (by omega),if_pos hk] at h
    simp only [Bool.and_eq_true,elemOK,List.isEmpty_iff] at h
    exact h.2.1.1
theorem za7 {p:Pt} (h:rightP p=true):p.kind=1∨p.kind=2∨p.kind=3∨p.kind=4∨p.kind=5:=by
  rw [zbI] at h
  by_cases h1:p.kind=1; · exact .inl h1
  by_cases h2:p.kind=2; · exact .inr (.inl h2)
  by_cases h3:p.kind=3; · exact .inr (.inr (.inl h3))
  by_cases h4:p.kind=4; · exact .inr (.inr (.inr (.inl h4)))
  by_cases h5:p.kind=5; · exact .inr (.inr (.inr (.inr h5)))
  rw [if_neg h1,if_neg h2,if_neg (by omega),if_neg h5] at h;cases h
theorem zcl {p:Pt} (h:rightP p=true) (hk:p.kind=3∨p.kind=4):p.kids≠[]∧p.min=0∧p.max=0:=by
  rw [zbI,if_neg (by omega),if_neg (by omega),if_pos hk] at h
  simp only [Bool.and_eq_true,plainP,beq_iff_eq,Bool.not_eq_true',List.isEmpty_eq_false_iff] at h
  exact ⟨h.1.1.2,h.1.1.1⟩
theorem zaI {p:Pt} (h:rightP p=true) (hk:p.kind=5):(∃ k,p.kids=[k]∧rightP k=true)∧0≤p.min∧p.min≤20∧(p.max = -1∨(1≤p.max∧p.min≤p.max∧p.max≤20)):=by
  have hr:=zaF h
  rw [zbI,if_neg (by omega),if_neg (by omega),if_neg (by omega),if_pos hk] at h
  simp only [Bool.and_eq_true,quantOK,beq_iff_eq,Bool.or_eq_true,decide_eq_true_eq] at h
  obtain ⟨⟨⟨⟨h1,h2,h3⟩,h4⟩,_⟩,_⟩:=h
  obtain ⟨k,hk⟩:=List.length_eq_one_iff.1 h1
  exact ⟨⟨k,hk,hr k (by rw [hk];exact List.mem_cons_self)⟩,h2,h3,by omega⟩
theorem zgF {k:Pt} {mn mx:Int} (h:rightP k=true) (h1:0≤mn∧mn≤20) (h2:mx = -1∨(1≤mx∧mn≤mx∧mx≤20)):rightP ⟨5,⟨#[]⟩,0,zE,zE,mn,mx,[k]⟩=true:=by
  have he:emptyS ⟨#[]⟩=true:=by unfold emptyS;rw [ByteArray.toList_eq];rfl
  have hz:noneE zE=true:=by unfold noneE zE zeroV zVal;simp only [he];decide
  rw [zbI,if_neg (by simp),if_neg (by simp),if_neg (by simp),if_pos rfl]
  simp only [quantOK,bareP,he,hz,List.all_cons,List.all_nil,h,List.length_singleton,decide_true,Bool.and_true,Bool.true_and,BEq.rfl,Bool.and_eq_true,Bool.or_eq_true,decide_eq_true_eq,beq_iff_eq]
  exact ⟨h1,by omega⟩
theorem zdO {k:Int} {l:List Pt} (hk:k=3∨k=4) (hne:l≠[]) (h:∀ x∈l,rightP x=true):rightP (groupP k l)=true:=by
  have he:emptyS ⟨#[]⟩=true:=by unfold emptyS;rw [ByteArray.toList_eq];rfl
  have hz:noneE zE=true:=by unfold noneE zE zeroV zVal;simp only [he];decide
  have ha:l.all rightP=true:=List.all_eq_true.2 h
  rw [zbI]
  unfold groupP
  dsimp only
  rw [if_neg (show ¬ k=1 by omega),if_neg (show ¬ k=2 by omega),if_pos hk]
  simp [plainP,bareP,he,hz,ha,hne]
theorem zcY (p:Pt):1≤sizeN p:=by rw [zet];omega
theorem zck {p:Pt} (hk:p.kind≠5):sizeN p=1+(p.kids.map sizeN).sum:=by
  rw [zet]
  congr 2
  refine List.map_congr_left fun k _=>?_
  rw [if_neg hk]
theorem zdI {p k:Pt} (hk:p.kind=5) (h:p.kids=[k]):sizeN p=1+(sizeN k+1) * timesP p:=by
  rw [zet,h];simp [hk]
theorem zei {p k:Pt} (h:rightP p=true) (hk:k∈p.kids):sizeN k < sizeN p:=by
  by_cases h5:p.kind=5
  · obtain ⟨⟨q,hq,_⟩,h1,h2,h3⟩:=zaI h h5
    rw [hq] at hk
    obtain rfl:=List.mem_singleton.1 hk
    rw [zdI h5 hq]
    have:1≤timesP p:=by unfold timesP;split<;>omega
    have:=Nat.le_mul_of_pos_right (sizeN k+1) this
    omega
  · rw [zck h5]
    have:=zgG sizeN p.kids k hk
    omega
theorem zjB {p:Pt} (h:rightP p=true):p.kids.length < sizeN p:=by
  by_cases h5:p.kind=5
  · obtain ⟨⟨q,hq,_⟩,h1,h2,h3⟩:=zaI h h5
    have:=zei h (k:=q) (by rw [hq];exact List.mem_cons_self)
    have:=zcY q
    rw [hq];simp only [List.length_singleton];omega
  · rw [zck h5]
    have:=zcq sizeN p.kids fun x _=>zcY x
    omega
theorem zaO {p:Pt} (hk:p.kind=1∨p.kind=2):normal p=p:=by rw [zdD,if_neg (by omega),if_neg (by omega)]
theorem za1 {p:Pt} (hk:p.kind=3∨p.kind=4):normal p=joinP p.kind (p.kids.map normal):=by rw [zdD,if_pos hk]
theorem zbk {p k:Pt} (hk:p.kind=5) (h:p.kids=[k]):normal p=joinP 3 (List.replicate p.min.toNat (normal k)++moreP p (normal k)):=by
  rw [zdD,if_neg (by omega),if_pos hk,h];rfl
theorem zgl {p:Pt} (b:Pt) (h1:0≤p.min) (h3:p.max = -1∨(1≤p.max∧p.min≤p.max∧p.max≤20)):p.min.toNat * nodesP b+((moreP p b).map nodesP).sum≤timesP p * (nodesP b+2):=by
  unfold moreP timesP
  split
  · simp only [List.map_cons,List.map_nil,List.sum_cons,List.sum_nil,zcU]
    rw [show (p.min+1).toNat=p.min.toNat+1 by omega,Nat.add_mul,Nat.mul_add]
    omega
  · split
    · simp only [List.map_cons,List.map_nil,List.sum_cons,List.sum_nil,Nat.add_zero]
      have h4:=zep b (p.max - p.min - 1).toNat
      have e:p.max.toNat=p.min.toNat+((p.max - p.min - 1).toNat+1):=by omega
      rw [e,Nat.add_mul]
      have:p.min.toNat * nodesP b≤p.min.toNat * (nodesP b+2):=Nat.mul_le_mul_left _ (by omega)
      omega
    · simp only [List.map_nil,List.sum_nil,Nat.add_zero]
      exact Nat.mul_le_mul (by omega) (by omega)
theorem zdm:∀ p:Pt,rightP p=true→nodesP (normal p)+1≤2 * sizeN p:=Pt.ind fun p ih h=>by
  have hr:=zaF h
  rcases za7 h with hk|hk|hk|hk|hk
  · rw [zaO (.inl hk),zbl,zci h (.inl hk)];have:=zcY p;simp;omega
  · rw [zaO (.inr hk),zbl,zci h (.inr hk)];have:=zcY p;simp;omega
  rotate_left 2
  · obtain ⟨⟨k,hkk,hkr⟩,h1,h2,h3⟩:=zaI h hk
    rw [zbk hk hkk,zdI hk hkk]
    have h4:=ih k (by rw [hkk];exact List.mem_cons_self) hkr
    have h5:=zer 3 (List.replicate p.min.toNat (normal k)++moreP p (normal k))
    have h6:=zgl (p:=p) (normal k) h1 h3
    rw [List.map_append,List.sum_append,List.map_replicate,zeD] at h5
    have h7:timesP p * (nodesP (normal k)+2)≤2 * ((sizeN k+1) * timesP p):=by
      rw [Nat.mul_comm (sizeN k+1),← Nat.mul_assoc,Nat.mul_comm 2,Nat.mul_assoc]
      exact Nat.mul_le_mul_left _ (by omega)
    omega
  all_goals
    rw [za1 (by omega),zck (by omega)]
    have h5:=zer p.kind (p.kids.map normal)
    rw [List.map_map] at h5
    have h6:=zgq (nodesP ∘ normal) (fun k=>2 * sizeN k) p.kids fun k hk=>by have:=ih k hk (hr k hk);simp only [Function.comp];omega
    have h7:(p.kids.map fun k=>2 * sizeN k).sum=2 * (p.kids.map sizeN).sum:=by
      clear h5 h6 ih hr h hk
      induction p.kids with
      | nil=>rfl
      | cons x l ih=>simp only [List.map_cons,List.sum_cons,ih];omega
    omega
theorem zkV {k:Int} (hk:k≠1∧k≠2) (p:Pt):(openP k p).flatMap elems=elems p:=by
  unfold openP
  split
  · rename_i h
    rw [za5 p,if_neg (by unfold isElem;simp [h,hk.1,hk.2])]
  · simp
theorem zjq {k:Int} (hk:k≠1∧k≠2) (l:List Pt):(l.flatMap (openP k)).flatMap elems=l.flatMap elems:=by
  rw [List.flatMap_assoc]
  congr 1
  funext p
  exact zkV hk p
theorem zd5 {k:Int} (hk:k≠1∧k≠2) (l:List Pt):elems (joinP k l)=l.flatMap elems:=by
  rw [← zjq hk]
  rcases zbq k l with ⟨p,h1,h2⟩ | ⟨_,h2⟩
  · rw [h1,h2];simp
  · rw [h2,za5,if_neg (by unfold isElem groupP;simp [hk.1,hk.2])];rfl
theorem zcS (b:Pt) (m:Int):elems (quantP b m)=elems b:=by
  rw [za5,if_neg (by unfold isElem quantP;simp)];simp [quantP]
inductive Flat:Pt→Prop
  | mk (p:Pt) (h1:p.kind=3∨p.kind=4→ ∀ c∈p.kids,c.kind≠p.kind) (h2:∀ c∈p.kids,Flat c):Flat p
theorem Flat.open_ {k:Int} (hk:k=3∨k=4) {p:Pt} (h:Flat p):∀ c∈openP k p,c.kind≠k∧Flat c:=by
  cases h with
  | mk p h1 h2 =>
    intro c hc
    unfold openP at hc
    split at hc
    · rename_i e;exact ⟨fun hck=>h1 (by omega) c hc (by omega),h2 c hc⟩
    · rename_i e;obtain rfl:=List.mem_singleton.1 hc;exact ⟨e,.mk _ h1 h2⟩
theorem Flat.opens {k:Int} (hk:k=3∨k=4) {l:List Pt} (h:∀ x∈l,Flat x):∀ c∈l.flatMap (openP k),c.kind≠k∧Flat c:=fun c hc=>by
  obtain ⟨x,hx,hcx⟩:=List.mem_flatMap.1 hc
  exact (h x hx).open_ hk c hcx
theorem Flat.join {k:Int} (hk:k=3∨k=4) {l:List Pt} (h:∀ x∈l,Flat x):Flat (joinP k l):=by
  have ho:=Flat.opens hk h
  rcases zbq k l with ⟨p,h1,h2⟩ | ⟨_,h2⟩
  · rw [h2];exact (ho p (by rw [h1];exact List.mem_cons_self)).2
  · rw [h2];exact .mk _ (fun _ c hc=>(ho c hc).1) fun c hc=>(ho c hc).2
theorem Flat.quant {b:Pt} (m:Int) (h:Flat b):Flat (quantP b m):=.mk _ (fun hk=>by simp [quantP] at hk) fun c hc=>by obtain rfl:=List.mem_singleton.1 hc;exact h
theorem Flat.tail {b:Pt} (h:Flat b):∀ n:Nat,Flat (tailP b n)
  | 0=>h.quant 1
  | n+1=>Flat.quant 1 (Flat.join (.inl rfl) fun x hx=>by
    rcases List.mem_cons.1 hx with rfl|hx
    · exact h
    · obtain rfl:=List.mem_singleton.1 hx;exact Flat.tail h n)
theorem Flat.more {p b:Pt} (h:Flat b):∀ x∈moreP p b,Flat x:=fun x hx=>by
  unfold moreP at hx
  split at hx
  · obtain rfl:=List.mem_singleton.1 hx;exact h.quant _
  · split at hx
    · obtain rfl:=List.mem_singleton.1 hx;exact h.tail _
    · cases hx
end Go.Proofs.YtiplihojmfbjkaaGreat
namespace Go.Proofs.YtiplihojmfbjkaaGreat
open Go.RowKit
structure Sp where
  low:Nat
  high:Option Nat
deriving DecidableEq
def sat (n:Nat):Nat:=min n 1000000
theorem zdT (n:Nat):sat n≤1000000:=Nat.min_le_right _ _
theorem zdX {n:Nat} (h:n≤1000000):sat n=n:=Nat.min_eq_left h
theorem zoe (a b:Nat):sat (sat a+sat b)=sat (a+b):=by unfold sat;omega
theorem zeW (a b:Nat):sat (a+sat b)=sat (a+b):=by unfold sat;omega
theorem zfk (a:Nat):sat (sat a)=sat a:=by unfold sat;omega
def andH:Option Nat→Option Nat→Option Nat
  | some a,some b=>some (sat (a+b))
  | _,_=>none
def orH:Option Nat→Option Nat→Option Nat
  | some a,some b=>some (max a b)
  | _,_=>none
def andS (s t:Sp):Sp:=⟨sat (s.low+t.low),andH s.high t.high⟩
def orS (s t:Sp):Sp:=⟨min s.low t.low,orH s.high t.high⟩
def timesS (s:Sp) (least most:Int):Sp:=⟨sat (s.low * least.toNat),if most < 0 then none else s.high.map fun h=>sat (h * most.toNat)⟩
def unitS:Sp:=⟨0,some 0⟩
def OkS (s:Sp):Prop:=s.low≤1000000∧ ∀ h,s.high=some h→h≤1000000
theorem zgM:OkS unitS:=⟨by decide,fun h e=>by cases e;decide⟩
theorem zeF (s t:Sp):OkS (andS s t):=⟨zdT _,fun h e=>by
  unfold andS andH at e
  simp only at e
  split at e
  · injection e with e;rw [← e];exact zdT _
  · cases e⟩
theorem zp1 {s t:Sp} (h1:OkS s) (h2:OkS t):OkS (orS s t):=⟨Nat.le_trans (Nat.min_le_left _ _) h1.1,fun h e=>by
  unfold orS orH at e
  simp only at e
  split at e
  · rename_i a b ha hb
    injection e with e
    rw [← e]
    exact Nat.max_le.2 ⟨h1.2 a ha,h2.2 b hb⟩
  · cases e⟩
theorem znB (s:Sp) (l m:Int):OkS (timesS s l m):=⟨zdT _,fun h e=>by
  unfold timesS at e
  simp only at e
  split at e
  · cases e
  · rw [Option.map_eq_some_iff] at e
    obtain ⟨a,_,e⟩:=e
    rw [← e];exact zdT _⟩
theorem zec (s t u:Sp):andS (andS s t) u=andS s (andS t u):=by
  unfold andS
  simp only [Sp.mk.injEq]
  refine ⟨by unfold sat;omega,?_⟩
  cases s.high<;>cases t.high<;>cases u.high<;>simp only [andH,Option.some.injEq]
  unfold sat;omega
theorem zk4 (s t u:Sp):orS (orS s t) u=orS s (orS t u):=by
  unfold orS
  simp only [Sp.mk.injEq]
  refine ⟨by omega,?_⟩
  cases s.high<;>cases t.high<;>cases u.high<;>simp only [orH,Option.some.injEq]
  omega
theorem zit {s:Sp} (h:OkS s):andS unitS s=s:=by
  obtain ⟨l,hi⟩:=s
  unfold andS unitS
  simp only [Sp.mk.injEq,Nat.zero_add]
  refine ⟨zdX h.1,?_⟩
  cases hi with
  | none=>rfl
  | some a=>simp only [andH,Nat.zero_add];rw [zdX (h.2 a rfl)]
theorem zed {s:Sp} (h:OkS s):andS s unitS=s:=by
  obtain ⟨l,hi⟩:=s
  unfold andS unitS
  simp only [Sp.mk.injEq,Nat.add_zero]
  refine ⟨zdX h.1,?_⟩
  cases hi with
  | none=>rfl
  | some a=>simp only [andH,Nat.add_zero];rw [zdX (h.2 a rfl)]
def spanS (l:List Sp):Sp:=l.foldl andS unitS
theorem zc2:∀ (l:List Sp) (s:Sp),OkS s→l.foldl andS s=andS s (spanS l)
  | [],s,h=>(zed h).symm
  | t :: l,s,h=>by
    unfold spanS
    rw [List.foldl_cons,List.foldl_cons,zc2 l _ (zeF s t),zc2 l _ (zeF unitS t),← zec,← zec,zed h]
theorem zlB (l:List Sp):OkS (spanS l):=by
  cases l with
  | nil=>exact zgM
  | cons t l=>unfold spanS;rw [List.foldl_cons,zc2 l _ (zeF unitS t)];exact zeF _ _
theorem zbB {t:Sp} (l:List Sp) (h:OkS t):spanS (t :: l)=andS t (spanS l):=by
  rw [spanS,List.foldl_cons,zit h,zc2 l t h]
theorem zdf {t:Sp} (h:OkS t):spanS [t]=t:=by rw [zbB [] h];exact zed h
theorem zgR:∀ (l m:List Sp),(∀ s∈l,OkS s)→spanS (l++m)=andS (spanS l) (spanS m)
  | [],m,_=>(zit (zlB m)).symm
  | t :: l,m,h=>by
    rw [List.cons_append,zbB _ (h t List.mem_cons_self),zgR l m fun s hs=>h s (List.mem_cons_of_mem _ hs),zbB l (h t List.mem_cons_self),zec]
def altS:List Sp→Sp
  | []=>unitS
  | s :: l=>l.foldl orS s
theorem ziY:∀ (l:List Sp) (s t:Sp),l.foldl orS (orS s t)=orS s (l.foldl orS t)
  | [],_,_=>rfl
  | u :: l,s,t=>by rw [List.foldl_cons,List.foldl_cons,zk4,ziY l s]
theorem zjQ:∀ (l m:List Sp),l≠[]→m≠[]→altS (l++m)=orS (altS l) (altS m)
  | [],_,h,_=>absurd rfl h
  | s :: l,[],_,h=>absurd rfl h
  | s :: l,t :: m,_,_=>by
    show (l++t :: m).foldl orS s=orS (l.foldl orS s) (m.foldl orS t)
    rw [List.foldl_append,List.foldl_cons,ziY]
def lenP:Pt→Sp:=foldP fun p ks =>
  if p.kind=1 then unitS else if p.kind=2 then ⟨1,some 1⟩ else if p.kind=5 then timesS (ks.headD unitS) p.min p.max else if p.kind=4 then altS ks else spanS ks
theorem zcz (p:Pt):lenP p=if p.kind=1 then unitS else if p.kind=2 then ⟨1,some 1⟩ else if p.kind=5 then timesS ((p.kids.map lenP).headD unitS) p.min p.max else if p.kind=4 then altS (p.kids.map lenP) else spanS (p.kids.map lenP):=by
  unfold lenP;rw [zaV]
theorem zoW {l:List Sp} (h:∀ s∈l,OkS s):OkS (altS l):=by
  cases l with
  | nil=>exact zgM
  | cons s l =>
    have:∀ (l:List Sp) (s:Sp),OkS s→(∀ t∈l,OkS t)→OkS (l.foldl orS s):=fun l=>by
      induction l with
      | nil=>intro s h _;exact h
      | cons t l ih=>intro s h1 h2;exact ih _ (zp1 h1 (h2 t List.mem_cons_self)) fun u hu=>h2 u (List.mem_cons_of_mem _ hu)
    exact this l s (h s List.mem_cons_self) fun t ht=>h t (List.mem_cons_of_mem _ ht)
theorem zbb:∀ p:Pt,OkS (lenP p):=Pt.ind fun p ih=>by
  rw [zcz]
  split
  · exact zgM
  · split
    · exact ⟨by decide,fun h e=>by cases e;decide⟩
    · split
      · exact znB _ _ _
      · split
        · exact zoW fun s hs=>by obtain ⟨k,hk,rfl⟩:=List.mem_map.1 hs;exact ih k hk
        · exact zlB _
theorem zjS (l:List Pt):∀ s∈l.map lenP,OkS s:=fun s hs=>by obtain ⟨k,_,rfl⟩:=List.mem_map.1 hs;exact zbb k
theorem zd0 {p:Pt} (hk:p.kind=3):lenP p=spanS (p.kids.map lenP):=by rw [zcz,if_neg (by omega),if_neg (by omega),if_neg (by omega),if_neg (by omega)]
theorem zd1 {p:Pt} (hk:p.kind=4):lenP p=altS (p.kids.map lenP):=by rw [zcz,if_neg (by omega),if_neg (by omega),if_neg (by omega),if_pos hk]
theorem zbY {p k:Pt} (hk:p.kind=5) (h:p.kids=[k]):lenP p=timesS (lenP k) p.min p.max:=by rw [zcz,if_neg (by omega),if_neg (by omega),if_pos hk,h];rfl
theorem ze4:∀ l:List Pt,spanS ((l.flatMap (openP 3)).map lenP)=spanS (l.map lenP)
  | []=>rfl
  | p :: l=>by
    rw [List.flatMap_cons,List.map_append,zgR _ _ (zjS _),ze4 l,List.map_cons,zbB _ (zbb p)]
    congr 1
    unfold openP
    split
    · rename_i h;rw [zd0 h]
    · exact zdf (zbb p)
theorem zdv (l:List Pt):lenP (joinP 3 l)=spanS (l.map lenP):=by
  rw [← ze4]
  rcases zbq 3 l with ⟨p,h1,h2⟩ | ⟨_,h2⟩
  · rw [h1,h2];exact (zdf (zbb p)).symm
  · rw [h2,zd0 rfl];rfl
theorem zfi {k:Int} (hk:k=3∨k=4) {p:Pt} (h:rightP p=true):openP k p≠[]:=by
  unfold openP
  split
  · rename_i e;exact (zcl h (by omega)).1
  · simp
theorem zeK:∀ l:List Pt,(∀ x∈l,rightP x=true)→l≠[]→altS ((l.flatMap (openP 4)).map lenP)=altS (l.map lenP)
  | [],_,h=>absurd rfl h
  | p :: l,hr,_=>by
    have h1:altS ((openP 4 p).map lenP)=lenP p:=by
      unfold openP
      split
      · rename_i h;rw [zd1 h]
      · rfl
    have ho:=zfi (k:=4) (.inr rfl) (hr p List.mem_cons_self)
    rw [List.flatMap_cons]
    by_cases hl:l=[]
    · subst hl;rw [List.flatMap_nil,List.append_nil,h1];rfl
    · have hf:(l.flatMap (openP 4))≠[]:=by
        cases l with
        | nil=>exact absurd rfl hl
        | cons q l =>
          rw [List.flatMap_cons]
          exact fun e=>zfi (k:=4) (.inr rfl) (hr q (List.mem_cons_of_mem _ List.mem_cons_self)) (List.append_eq_nil_iff.1 e).1
      rw [List.map_append,zjQ _ _ (by simpa using ho) (by simpa using hf),h1,zeK l (fun x hx=>hr x (List.mem_cons_of_mem _ hx)) hl,List.map_cons]
      have:=zjQ [lenP p] (l.map lenP) (by simp) (by simpa using hl)
      rw [List.singleton_append] at this
      rw [this];rfl
theorem zln {l:List Pt} (hr:∀ x∈l,rightP x=true) (hl:l≠[]):lenP (joinP 4 l)=altS (l.map lenP):=by
  rw [← zeK l hr hl]
  rcases zbq 4 l with ⟨p,h1,h2⟩ | ⟨_,h2⟩
  · rw [h1,h2];rfl
  · rw [h2,zd1 rfl];rfl
theorem zjK (s:Sp) (hs:OkS s):∀ m:Nat,spanS (List.replicate (m+1) s)=⟨sat ((m+1) * s.low),s.high.map fun h=>sat ((m+1) * h)⟩
  | 0=>by
    show spanS [s]=_
    rw [zdf hs]
    obtain ⟨l,hi⟩:=s
    simp only [Nat.zero_add,Nat.one_mul,Sp.mk.injEq]
    refine ⟨(zdX hs.1).symm,?_⟩
    cases hi with
    | none=>rfl
    | some a=>simp only [Option.map_some];rw [zdX (hs.2 a rfl)]
  | m+1=>by
    rw [List.replicate_succ,zbB _ hs,zjK s hs m]
    obtain ⟨l,hi⟩:=s
    unfold andS
    simp only [Sp.mk.injEq]
    refine ⟨by rw [zeW,Nat.add_mul (m+1) 1,Nat.one_mul,Nat.add_comm],?_⟩
    cases hi with
    | none=>rfl
    | some a=>simp only [Option.map_some,andH];rw [zeW,Nat.add_mul (m+1) 1,Nat.one_mul,Nat.add_comm]
theorem zif (b:Pt):∀ n:Nat,lenP (tailP b n)=⟨0,(lenP b).high.map fun h=>sat ((n+1) * h)⟩
  | 0=>by
    rw [tailP,zbY (p:=quantP b 1) rfl rfl]
    unfold timesS
    simp [quantP,sat]
  | n+1=>by
    rw [tailP,zbY (p:=quantP _ 1) rfl rfl,zdv,List.map_cons,List.map_singleton,zbB _ (zbb b),zdf (zbb _),zif b n]
    unfold timesS andS
    simp only [quantP,Sp.mk.injEq]
    refine ⟨by simp [sat],?_⟩
    cases (lenP b).high with
    | none=>rfl
    | some a =>
      simp only [andH,Option.map_some]
      show some (sat (sat (a+sat ((n+1) * a)) * 1))=some (sat ((n+1+1) * a))
      rw [zeW,Nat.mul_one,zfk,Nat.add_mul (n+1) 1,Nat.one_mul,Nat.add_comm]
theorem zkI {p b:Pt} (hb:rightP b=true):∀ x∈moreP p b,rightP x=true:=by
  have hq:∀ (k:Pt) (m:Int),rightP k=true→m = -1∨m=1→rightP (quantP k m)=true:=fun k m h hm=>zgF h ⟨by decide,by decide⟩ (by omega)
  have hj:∀ l:List Pt,(∀ x∈l,rightP x=true)→l≠[]→rightP (joinP 3 l)=true:=fun l hl hne=>by
    have ho:∀ x∈l.flatMap (openP 3),rightP x=true:=fun x hx=>by
      obtain ⟨y,hy,hxy⟩:=List.mem_flatMap.1 hx
      unfold openP at hxy
      split at hxy
      · exact zaF (hl y hy) x hxy
      · obtain rfl:=List.mem_singleton.1 hxy;exact hl _ hy
    rcases zbq 3 l with ⟨q,h1,h2⟩ | ⟨_,h2⟩
    · rw [h2];exact ho q (by rw [h1];exact List.mem_cons_self)
    · rw [h2]
      refine zdO (.inl rfl) ?_ ho
      cases l with
      | nil=>exact absurd rfl hne
      | cons y l =>
        rw [List.flatMap_cons]
        exact fun e=>zfi (k:=3) (.inl rfl) (hl y List.mem_cons_self) (List.append_eq_nil_iff.1 e).1
  have ht:∀ n:Nat,rightP (tailP b n)=true:=fun n=>by
    induction n with
    | zero=>exact hq b 1 hb (.inr rfl)
    | succ n ih =>
      refine hq _ 1 (hj _ (fun x hx=>?_) (by simp)) (.inr rfl)
      rcases List.mem_cons.1 hx with rfl|hx
      · exact hb
      · obtain rfl:=List.mem_singleton.1 hx;exact ih
  intro x hx
  unfold moreP at hx
  split at hx
  · obtain rfl:=List.mem_singleton.1 hx;exact hq b _ hb (.inl rfl)
  · split at hx
    · obtain rfl:=List.mem_singleton.1 hx;exact ht _
    · cases hx
theorem zf7 {k:Int} (hk:k=3∨k=4) {l:List Pt} (hl:∀ x∈l,rightP x=true) (hne:l≠[]):rightP (joinP k l)=true:=by
  have ho:∀ x∈l.flatMap (openP k),rightP x=true:=fun x hx=>by
    obtain ⟨y,hy,hxy⟩:=List.mem_flatMap.1 hx
    unfold openP at hxy
    split at hxy
    · exact zaF (hl y hy) x hxy
    · obtain rfl:=List.mem_singleton.1 hxy;exact hl _ hy
  rcases zbq k l with ⟨q,h1,h2⟩ | ⟨_,h2⟩
  · rw [h2];exact ho q (by rw [h1];exact List.mem_cons_self)
  · rw [h2]
    refine zdO hk ?_ ho
    cases l with
    | nil=>exact absurd rfl hne
    | cons y l =>
      rw [List.flatMap_cons]
      exact fun e=>zfi hk (hl y List.mem_cons_self) (List.append_eq_nil_iff.1 e).1
theorem zhk {p b:Pt} (h3:p.max = -1∨(1≤p.max∧p.min≤p.max∧p.max≤20)):List.replicate p.min.toNat b++moreP p b≠[]:=by
  intro e
  obtain ⟨e1,e2⟩:=List.append_eq_nil_iff.1 e
  have h0:p.min.toNat=0:=by have:=congrArg List.length e1;simpa using this
  unfold moreP at e2
  split at e2
  · cases e2
  · split at e2
    · cases e2
    · omega
theorem zeZ:∀ p:Pt,rightP p=true→rightP (normal p)=true:=Pt.ind fun p ih h=>by
  have hr:=zaF h
  rcases za7 h with hk|hk|hk|hk|hk
  · rw [zaO (.inl hk)];exact h
  · rw [zaO (.inr hk)];exact h
  rotate_left 2
  · obtain ⟨⟨k,hkk,hkr⟩,h1,h2,h3⟩:=zaI h hk
    rw [zbk hk hkk]
    have hb:=ih k (by rw [hkk];exact List.mem_cons_self) hkr
    refine zf7 (.inl rfl) (fun x hx=>?_) (zhk h3)
    rcases List.mem_append.1 hx with hx|hx
    · rw [(List.mem_replicate.1 hx).2];exact hb
    · exact zkI hb x hx
  all_goals
    rw [za1 (by omega)]
    refine zf7 (by omega) (fun x hx=>?_) (by simpa using (zcl h (by omega)).1)
    obtain ⟨y,hy,rfl⟩:=List.mem_map.1 hx
    exact ih y hy (hr y hy)
theorem zkX:∀ p:Pt,rightP p=true→lenP (normal p)=lenP p:=Pt.ind fun p ih h=>by
  have hr:=zaF h
  have hmap:(p.kids.map normal).map lenP=p.kids.map lenP:=by
    rw [List.map_map]
    exact List.map_congr_left fun k hk=>ih k hk (hr k hk)
  rcases za7 h with hk|hk|hk|hk|hk
  · rw [zaO (.inl hk)]
  · rw [zaO (.inr hk)]
  · rw [za1 (.inl hk),hk,zdv,hmap,zd0 hk]
  · rw [za1 (.inr hk),hk,zln (fun x hx=>by obtain ⟨y,hy,rfl⟩:=List.mem_map.1 hx;exact zeZ y (hr y hy)) (by simpa using (zcl h (by omega)).1),hmap,zd1 hk]
  · obtain ⟨⟨k,hkk,hkr⟩,h1,h2,h3⟩:=zaI h hk
    have hB:=ih k (by rw [hkk];exact List.mem_cons_self) hkr
    rw [zbk hk hkk,zdv,List.map_append,zgR _ _ (zjS _),List.map_replicate,hB,zbY hk hkk]
    have hok:=zbb k
    generalize hs:lenP k=s at *
    have hrep:spanS (List.replicate p.min.toNat s)=⟨sat (p.min.toNat * s.low),if p.min.toNat=0 then some 0 else s.high.map fun h=>sat (p.min.toNat * h)⟩:=by
      cases hm:p.min.toNat with
      | zero=>rw [Nat.zero_mul];rfl
      | succ m=>rw [zjK s hok m,if_neg (by omega)]
    rw [hrep]
    unfold moreP
    by_cases hm:p.max < 0
    · rw [if_pos hm,List.map_singleton,zdf (zbb _),zbY (p:=quantP _ _) rfl rfl,hB]
      unfold timesS andS
      simp only [quantP,Sp.mk.injEq,Int.toNat_zero,Nat.mul_zero]
      rw [if_pos hm,show sat 0=0 from rfl,Nat.add_zero,zfk,Nat.mul_comm]
      exact ⟨rfl,by cases (if p.min.toNat=0 then some 0 else s.high.map fun h=>sat (p.min.toNat * h))<;>rfl⟩
    · rw [if_neg hm]
      by_cases hgt:p.min < p.max
      · rw [if_pos hgt,List.map_singleton,zdf (zbb _),zif,hB]
        unfold timesS andS
        simp only [Sp.mk.injEq]
        rw [if_neg hm,Nat.add_zero,zfk,Nat.mul_comm]
        refine ⟨rfl,?_⟩
        cases s.high with
        | none=>cases (if p.min.toNat=0 then some 0 else Option.map (fun h=>sat (p.min.toNat * h)) none)<;>rfl
        | some a =>
          have e:p.max.toNat=p.min.toNat+((p.max - p.min - 1).toNat+1):=by omega
          by_cases h0:p.min.toNat=0
          · rw [if_pos h0]
            simp only [Option.map_some,andH,Nat.zero_add]
            rw [zfk,e,h0,Nat.zero_add,Nat.mul_comm]
          · rw [if_neg h0]
            simp only [Option.map_some,andH]
            rw [zoe,e,Nat.mul_comm a,Nat.add_mul p.min.toNat]
      · rw [if_neg hgt]
        have e:p.max=p.min:=by omega
        have h0:¬ p.min.toNat=0:=by omega
        rw [List.map_nil,show spanS []=unitS from rfl,if_neg h0]
        rw [zed ⟨zdT _,fun h e=>by rw [Option.map_eq_some_iff] at e;obtain ⟨a,_,e⟩:=e;rw [← e];exact zdT _⟩]
        unfold timesS
        simp only [Sp.mk.injEq]
        rw [if_neg hm,e,Nat.mul_comm]
        refine ⟨rfl,?_⟩
        cases s.high with
        | none=>rfl
        | some a=>simp only [Option.map_some];rw [Nat.mul_comm]
end Go.Proofs.YtiplihojmfbjkaaGreat
