/- Small laws: remainders,sets of data,the states of a machine. -/
import Derived.Test.YtiplihojmfbjkaaGreatQ1
import Derived.Test.YtiplihojmfbjkaaGreatMC
import Derived.Test.YtiplihojmfbjkaaGreatQE
import Derived.Test.YtiplihojmfbjkaaGreatGD
import Derived.Test.YtiplihojmfbjkaaGreatWM
set_option maxRecDepth 100000
set_option maxHeartbeats 16000000
namespace Go.Proofs.YtiplihojmfbjkaaGreat
open Go.RowKit
theorem zjO (n:Int) (c:Nat) (hc:c≤1000):0≤(IntKind.i64.wrap ((BitVec.ofInt IntKind.i64.bits n &&& BitVec.ofInt IntKind.i64.bits c).toNat:Nat))∧(IntKind.i64.wrap ((BitVec.ofInt IntKind.i64.bits n &&& BitVec.ofInt IntKind.i64.bits c).toNat:Nat))≤c:=by
  have hb:(BitVec.ofInt IntKind.i64.bits n &&& BitVec.ofInt IntKind.i64.bits c).toNat≤c:=by
    rw [BitVec.toNat_and]
    have:(BitVec.ofInt IntKind.i64.bits c).toNat=c:=by
      rw [BitVec.ofInt_natCast,BitVec.toNat_ofNat]
      exact Nat.mod_eq_of_lt (Nat.lt_of_le_of_lt hc (by decide))
    rw [this]
    exact Nat.and_le_right
  generalize (BitVec.ofInt IntKind.i64.bits n &&& BitVec.ofInt IntKind.i64.bits c).toNat=z at hb
  rw [IntWalk.i64_in (z:Int) (by omega)]
  exact ⟨by omega,by omega⟩
section
variable {w0:W0} {S0:Nat→Nat→Prop} {nt:Nat} {fr:Fr} {σ:Obs} {o:Oper} {ops:Array Oper} {rest:List Oper} {d:Nat} {t t2:TypeId} {Q:Fr→Obs→Prop}
theorem uRem {xx yy:Operand} {a b:Int} (h:RL (cx nt w0 S0) ops rest ((d,vI (a.tmod b)) :: fr) σ Q) (ho:o.op=.binOp .rem t xx yy t2:=by rfl) (hdst:o.dst=some d:=by rfl) (hd:Nat.blt d nt=true:=by rfl) (hw:wantA ops o fr=some true:=by rfl) (hx:ev fr xx=some (vI a):=by rfl) (hy:ev fr yy=some (vI b):=by rfl) (hb:b≠0:=by omega):RL (cx nt w0 S0) ops (o :: rest) fr σ Q :=
  RL_p (X:=cx nt w0 S0) (x:=vI (a.tmod b)) zad hw hdst hd (by
    unfold aop
    rw [ho]
    simp only [hx,hy,vI,abin,hb,ne_eq,not_false_eq_true,and_self,if_true,Option.map_some]) h
end
theorem zj6 {a b:Int} (ha:0≤a) (hb:0 < b):0≤a.tmod b∧a.tmod b < b:=by
  rw [Int.tmod_eq_emod_of_nonneg ha]
  exact ⟨Int.emod_nonneg _ (by omega),Int.emod_lt_of_pos _ hb⟩
theorem machOk {p:Pt} (hs:shapeP p=true) (hn:nodesP p≤20000):MachOk (buildM p) (buildM p).states.toNat:=by
  have hI:=zlc hs
  obtain ⟨⟨a1,a2,a3,a4⟩,a5⟩:=zdl p 0 1 ⟨[],[],2⟩ hs
  have e:layM p 0 1 ⟨[],[],2⟩=buildM p:=rfl
  rw [e] at a1 a2 a3 a4 a5
  simp only [List.length_nil] at a1 a2 a3 a4 a5
  have h2:=hI.st
  refine ⟨by omega,by omega,by omega,fun v hv=>?_,fun v hv=>?_⟩
  · have:=hI.mv v hv
    omega
  · have:=hI.mv v hv
    unfold elemOk
    omega
theorem zi7 {p:Pt} (h:shapeP p=true):(buildM p).elems=elems p:=by
  have:=(zgC p 0 1 ⟨[],[],2⟩ h).el
  exact this
end Go.Proofs.YtiplihojmfbjkaaGreat
namespace Go.Proofs.YtiplihojmfbjkaaGreat
open Go.RowKit
structure PathOk (g:Gr) (ns es:List Int):Prop where
  len:ns.length=es.length+1
  nodes:∀ n∈ns,0≤n∧n < g.nodes.length
  edges:∀ e∈es,0≤e∧e < g.edges.length
  link:∀ (i:Nat) (e x y:Int),es[i]?=some e→ns[i]?=some x→ns[i+1]?=some y→ ∃ d,g.edges[e.toNat]?=some d∧((d.src=x∧d.dst=y)∨(d.src=y∧d.dst=x))
theorem PathOk.one {g:Gr} {n:Int} (h:0≤n∧n < g.nodes.length):PathOk g [n] [] :=
  ⟨rfl,fun m hm=>by obtain rfl:=List.mem_singleton.1 hm;exact h,by simp,by simp⟩
theorem PathOk.step {g:Gr} {ns es:List Int} {x y e:Int} {d:Ed} (h:PathOk g ns es) (hl:ns[es.length]?=some x) (hy:0≤y∧y < g.nodes.length) (he:0≤e) (hd:g.edges[e.toNat]?=some d) (hxy:(d.src=x∧d.dst=y)∨(d.src=y∧d.dst=x)):PathOk g (ns++[y]) (es++[e]):=by
  obtain ⟨h1,h2,h3,h4⟩:=h
  have hlt:=(List.getElem?_eq_some_iff.1 hd).1
  refine ⟨by simp [h1],fun n hn=>?_,fun n hn=>?_,fun i e' x' y' q1 q2 q3=>?_⟩
  · rcases List.mem_append.1 hn with hn|hn
    · exact h2 n hn
    · obtain rfl:=List.mem_singleton.1 hn;exact hy
  · rcases List.mem_append.1 hn with hn|hn
    · exact h3 n hn
    · obtain rfl:=List.mem_singleton.1 hn;exact ⟨he,by omega⟩
  · by_cases hi:i < es.length
    · rw [List.getElem?_append_left hi] at q1
      rw [List.getElem?_append_left (by omega)] at q2 q3
      exact h4 i e' x' y' q1 q2 q3
    · have hi2:i=es.length:=by
        have:=(List.getElem?_eq_some_iff.1 q1).1
        simp at this;omega
      subst hi2
      rw [List.getElem?_append_right (by omega)] at q1 q3
      rw [List.getElem?_append_left (by omega),hl] at q2
      simp only [Nat.sub_self,List.getElem?_cons_zero,Option.some.injEq] at q1
      rw [show es.length+1 - ns.length=0 by omega] at q3
      simp only [List.getElem?_cons_zero,Option.some.injEq] at q2 q3
      subst q1;subst q2;subst q3
      exact ⟨d,hd,hxy⟩
theorem zgK (l:List Int):sized 1 (l.map encI)=true:=by
  unfold sized;rw [List.all_map];exact List.all_eq_true.2 fun _ _=>rfl
theorem ziZ {g:Gr} (h:graphRight g=0):∀ d∈g.edges,(0≤d.src∧d.src < g.nodes.length)∧(0≤d.dst∧d.dst < g.nodes.length):=fun d hd=>by
  unfold graphRight at h
  split at h
  · omega
  · split at h
    · rename_i hh
      simp only [Bool.and_eq_true,List.all_eq_true] at hh
      have:=hh.2 d hd
      unfold edgeR inN at this
      simp only [Bool.and_eq_true,decide_eq_true_eq] at this
      omega
    · omega
def Near (g:Gr) (x e:Int):Prop:=0≤e∧ ∃ d,g.edges[e.toNat]?=some d∧(d.src=x∨d.dst=x)
theorem zmC (g:Gr) (src:Int) (steps:List Int) (hr:graphRight g=0) (h0:0 < g.nodes.length) (h8:g.nodes.length≤8) (h10:g.edges.length≤10) :
    CallsN Tryz.prog 30 [.dat (encG g),vI src,vL (steps.map encI)] [] (fun y σ1=>∃ i:List Int × List Int,y=.dat [.sl (i.1.map encI),.sl (i.2.map encI)]∧σ1=[]∧(PathOk g i.1 i.2∧i.2.length≤5)):=by
  have hln:(g.nodes.map encNd).length=g.nodes.length:=List.length_map _
  have hle:(g.edges.map encEd).length=g.edges.length:=List.length_map _
  have hls:(steps.map encI).length=steps.length:=List.length_map _
  have hE:=ziZ hr
  have hc1:0≤(IntKind.i64.wrap ((BitVec.ofInt IntKind.i64.bits src &&& BitVec.ofInt IntKind.i64.bits 255).toNat:Nat))∧(IntKind.i64.wrap ((BitVec.ofInt IntKind.i64.bits src &&& BitVec.ofInt IntKind.i64.bits 255).toNat:Nat))≤255:=zjO src 255 (by decide)
  have hnd:=zj6 (a:=(IntKind.i64.wrap ((BitVec.ofInt IntKind.i64.bits src &&& BitVec.ofInt IntKind.i64.bits 255).toNat:Nat))) (b:=((g.nodes.map encNd).length:Int)) hc1.1 (by omega)
  unfold encG
  (refine zcX (Ty:=Ty) zad Tryz.func30 rfl rfl rfl (by rfl) fun w0 S0 hp=>?_;refine enA ?_)
  iterate 22 (first|(refine isRL ?_;first|refine uRem ?_|refine uBdZ ?_|refine uAlO ?_)|refine nx ?_|(refine nx2 ?_ ?_<;>intro hb))
  refine uNilO 8 1002 1 3 1 ?_
  refine uRn 20 1001 (zaH (hp 1001 rfl)) ?_
  refine uRn 8 1000 (zaH (hp 1000 rfl)) ?_
  generalize ((IntKind.i64.wrap ((BitVec.ofInt IntKind.i64.bits src &&& BitVec.ofInt IntKind.i64.bits 255).toNat:Nat))).tmod ((g.nodes.map encNd).length:Int)=x0 at hnd ⊢
  rw [hln] at hnd
  repeat' (first|refine nx ?_|(refine nx2 ?_ ?_<;>intro hb))
  refine zay (α:=Nat × Int × List Int × List Int) (fun x=>[(2,vL (steps.map encI)),(3,.one (.po 3 0)),(6,.one (.po 6 0)),(7,vI x.2.1),(8,.one (.po 1000 0)),(9,vI x.1)])
    (fun x=>[(3,.box 25 [.sl (g.nodes.map encNd),.sl (g.edges.map encEd)]),(6,.obj 60 [.d (.v (.slice none 0 0)),.d (.v (.slice none 0 0))]),(1000,.obj 60 [.own 1001 (x.2.2.1.map encI),.own 1002 (x.2.2.2.map encI)]),(1001,.tok 3 1),(1002,.tok 3 1)])
    (fun x=>x.1≤5∧x.1≤steps.length∧(0≤x.2.1∧x.2.1 < g.nodes.length)∧PathOk g x.2.2.1 x.2.2.2∧x.2.2.2.length=x.1∧x.2.2.1[x.1]?=some x.2.1) (fun x=>5 - x.1) (0,x0,[x0],[]) ⟨Nat.zero_le _,Nat.zero_le _,hnd,PathOk.one hnd,rfl,rfl⟩ subA subA ?_
  rintro ⟨i,x,ns,es⟩ ⟨hi5,hi,hx,hP,hel,hnx⟩
  dsimp only at hi5 hi hx hP hel hnx ⊢
  have hns:=hP.len
  have zn:=zgK ns
  have ze:=zgK es
  have hlN:(ns.map encI).length=ns.length:=List.length_map _
  have hlE:(es.map encI).length=es.length:=List.length_map _
  by_cases hlt:i < 5∧i < steps.length
  · obtain ⟨h5,hs⟩:=hlt
    obtain ⟨st,hst⟩:∃ st,steps[i]?=some st:=⟨_,List.getElem?_eq_getElem hs⟩
    iterate 21 (first|refine nx ?_|(refine nx2 ?_ ?_<;>intro hb))
    refine uNil 10 1003 3 1 ?_
    repeat' (first|refine nx ?_|(refine nx2 ?_ ?_<;>intro hb))
    refine zay (α:=Nat × List Int) (fun z=>[(2,vL (steps.map encI)),(3,.one (.po 3 0)),(6,.one (.po 6 0)),(7,vI x),(8,.one (.po 1000 0)),(9,vI i),(10,.one (.own 1003 (z.2.map encI))),(11,vI z.1)])
      (fun z=>[(3,.box 25 [.sl (g.nodes.map encNd),.sl (g.edges.map encEd)]),(6,.obj 60 [.d (.v (.slice none 0 0)),.d (.v (.slice none 0 0))]),(1000,.obj 60 [.own 1001 (ns.map encI),.own 1002 (es.map encI)]),(1001,.tok 3 1),(1002,.tok 3 1),(1003,.tok 3 1)])
      (fun z=>z.1≤g.edges.length∧z.2.length≤z.1∧ ∀ y∈z.2,Near g x y) (fun z=>g.edges.length - z.1) (0,[]) ⟨Nat.zero_le _,Nat.le_refl _,by simp⟩ subA subA ?_
    rintro ⟨k,l⟩ ⟨hk,hll,hnear⟩
    dsimp only at hk hll hnear ⊢
    have zl:=zgK l
    have hlL:(l.map encI).length=l.length:=List.length_map _
    by_cases hke:k < g.edges.length
    · obtain ⟨d,hd⟩:∃ d,g.edges[k]?=some d:=⟨_,List.getElem?_eq_getElem hke⟩
      have hap:l.map encI++[encI (k:Int)]=(l++[(k:Int)]).map encI:=by rw [List.map_append];rfl
      have hyes:(d.src=x∨d.dst=x)→ ∀ y∈l++[(k:Int)],Near g x y:=fun h y hy=>by
        rcases List.mem_append.1 hy with hy|hy
        · exact hnear y hy
        · obtain rfl:=List.mem_singleton.1 hy
          exact ⟨Int.natCast_nonneg k,d,by rw [Int.toNat_natCast];exact hd,h⟩
      by_cases hs1:d.src=x
      · repeat' (first|refine nx ?_|(refine nx2 ?_ ?_<;>intro hb))
        exact ⟨(k+1,l++[(k:Int)]),by show _ - (k+1) < _;omega,⟨by show k+1≤_;omega,by show (l++[(k:Int)]).length≤k+1;rw [List.length_append,List.length_singleton];omega,hyes (.inl hs1)⟩,(by simp only [← hap];exact subA),subA⟩
      · by_cases hs2:d.dst=x
        · repeat' (first|refine nx ?_|(refine nx2 ?_ ?_<;>intro hb))
          exact ⟨(k+1,l++[(k:Int)]),by show _ - (k+1) < _;omega,⟨by show k+1≤_;omega,by show (l++[(k:Int)]).length≤k+1;rw [List.length_append,List.length_singleton];omega,hyes (.inr hs2)⟩,(by simp only [← hap];exact subA),subA⟩
        · repeat' (first|refine nx ?_|(refine nx2 ?_ ?_<;>intro hb))
          exact ⟨(k+1,l),by show _ - (k+1) < _;omega,⟨by show k+1≤_;omega,by show l.length≤k+1;omega,hnear⟩,subA,subA⟩
    · obtain rfl:k=g.edges.length:=by omega
      by_cases hl0:l.length=0
      · repeat' (first|refine nx ?_|(refine nx2 ?_ ?_<;>intro hb))
        exact zlh (by rfl) (by rfl) ghasA ⟨(ns,es),rfl,rfl,hP,by show es.length≤5;omega⟩
      have hc2:0≤(IntKind.i64.wrap ((BitVec.ofInt IntKind.i64.bits st &&& BitVec.ofInt IntKind.i64.bits 255).toNat:Nat))∧(IntKind.i64.wrap ((BitVec.ofInt IntKind.i64.bits st &&& BitVec.ofInt IntKind.i64.bits 255).toNat:Nat))≤255:=zjO st 255 (by decide)
      have hnl:=zj6 (a:=(IntKind.i64.wrap ((BitVec.ofInt IntKind.i64.bits st &&& BitVec.ofInt IntKind.i64.bits 255).toNat:Nat))) (b:=((l.map encI).length:Int)) hc2.1 (by omega)
      obtain ⟨e,he⟩:∃ e,l[(((IntKind.i64.wrap ((BitVec.ofInt IntKind.i64.bits st &&& BitVec.ofInt IntKind.i64.bits 255).toNat:Nat))).tmod ((l.map encI).length:Int)).toNat]?=some e:=⟨_,List.getElem?_eq_getElem (by omega)⟩
      obtain ⟨he0,d,hd,hsd⟩:=hnear e (List.mem_of_getElem? he)
      have hdE:=hE d (List.mem_of_getElem? hd)
      have hlt2:=(List.getElem?_eq_some_iff.1 hd).1
      have hy:0≤d.src+d.dst - x∧d.src+d.dst - x < g.nodes.length:=by
        rcases hsd with h|h
        · rw [h];omega
        · rw [h];omega
      have hxy:(d.src=x∧d.dst=d.src+d.dst - x)∨(d.src=d.src+d.dst - x∧d.dst=x):=by
        rcases hsd with h|h
        · exact .inl ⟨h,by omega⟩
        · exact .inr ⟨by omega,h⟩
      have hP2:=hP.step (y:=d.src+d.dst - x) (by rw [hel];exact hnx) hy he0 hd hxy
      have hn1:ns.map encI++[encI (d.src+d.dst - x)]=(ns++[d.src+d.dst - x]).map encI:=by rw [List.map_append];rfl
      have he1:es.map encI++[encI e]=(es++[e]).map encI:=by rw [List.map_append];rfl
      repeat' (first|refine uRem ?_|refine nx ?_|(refine nx2 ?_ ?_<;>intro hb))
      exact ⟨(i+1,d.src+d.dst - x,ns++[d.src+d.dst - x],es++[e]),by show 5 - (i+1) < _;omega,⟨by show i+1≤5;omega,by show i+1≤steps.length;omega,hy,hP2,by show (es++[e]).length=i+1;rw [List.length_append,List.length_singleton,hel],by show (ns++[d.src+d.dst - x])[i+1]?=_;rw [List.getElem?_append_right (by omega),show i+1 - ns.length=0 by omega];rfl⟩,subA,(by simp only [← hn1,← he1];exact subA)⟩
  · have hor:¬ i < steps.length∨(i < steps.length∧¬ i < 5):=by omega
    rcases hor with h | ⟨h,h'⟩
    all_goals
      repeat' (first|refine nx ?_|(refine nx2 ?_ ?_<;>intro hb))
      exact zlh (by rfl) (by rfl) ghasA ⟨(ns,es),rfl,rfl,hP,by show es.length≤5;omega⟩
end Go.Proofs.YtiplihojmfbjkaaGreat
namespace Go.Proofs.YtiplihojmfbjkaaGreat
open Go.RowKit
def starP:Pt→Bool:=foldP fun p ks=>(p.kind != 5 || (p.min==0&&decide (0 < (lenP (p.kids.headD zPt)).low)))&&ks.all id
theorem zcL (p:Pt):starP p=((p.kind != 5 || (p.min==0&&decide (0 < (lenP (p.kids.headD zPt)).low)))&&p.kids.all starP):=by unfold starP;rw [zaV,List.all_map];rfl
theorem zfb {p:Pt} (h:starP p=true):∀ k∈p.kids,starP k=true:=by
  rw [zcL,Bool.and_eq_true,List.all_eq_true] at h;exact h.2
theorem zhz {p k:Pt} (h:starP p=true) (hk:p.kind=5) (hkk:p.kids=[k]):p.min=0∧0 < (lenP k).low:=by
  rw [zcL,Bool.and_eq_true] at h
  have h:=h.1
  rw [hkk,hk] at h
  simpa using h
theorem zkW {k:Int} {l:List Pt} (hk:k≠5) (h:∀ x∈l,starP x=true):starP (groupP k l)=true:=by
  rw [zcL,Bool.and_eq_true,List.all_eq_true]
  exact ⟨by simp [groupP,hk],h⟩
theorem zew {b:Pt} {m:Int} (hb:starP b=true) (hl:0 < (lenP b).low):starP (quantP b m)=true:=by
  rw [zcL]
  simp [quantP,hb,hl]
theorem zl0 {k:Int} {p:Pt} (h:starP p=true):∀ x∈openP k p,starP x=true:=fun x hx=>by
  unfold openP at hx
  split at hx
  · exact zfb h x hx
  · obtain rfl:=List.mem_singleton.1 hx;exact h
theorem ze8 {k:Int} {l:List Pt} (hk:k≠5) (h:∀ x∈l,starP x=true):starP (joinP k l)=true:=by
  have h2:∀ y∈l.flatMap (openP k),starP y=true:=fun y hy=>by
    obtain ⟨x,hx,hxy⟩:=List.mem_flatMap.1 hy
    exact zl0 (h x hx) y hxy
  rcases zbq k l with ⟨p,e1,e2⟩ | ⟨_,e2⟩
  · rw [e2];exact h2 p (by rw [e1];exact List.mem_cons_self)
  · rw [e2];exact zkW hk h2
theorem zgJ (s t:Sp):0 < (andS s t).low↔0 < s.low∨0 < t.low:=by
  show 0 < sat (s.low+t.low)↔_
  unfold sat;omega
theorem zn7 (b c:Pt) (h:0 < (lenP b).low):0 < (lenP (joinP 3 [b,c])).low:=by
  rw [zdv,List.map_cons,zbB _ (zbb b),zgJ];exact .inl h
theorem zg2 {b:Pt} (hb:starP b=true) (hl:0 < (lenP b).low):∀ n:Nat,starP (tailP b n)=true
  | 0=>zew hb hl
  | n+1=>zew (ze8 (by decide) fun x hx=>by
    rcases List.mem_cons.1 hx with rfl|hx
    · exact hb
    · obtain rfl:=List.mem_singleton.1 hx;exact zg2 hb hl n) (zn7 b _ hl)
theorem zfq:∀ p:Pt,rightP p=true→endsP p=true→starP (normal p)=true:=Pt.ind fun p ih h he=>by
  have hr:=zaF h
  rw [zez,Bool.and_eq_true,List.all_eq_true] at he
  obtain ⟨h0,he⟩:=he
  rcases za7 h with hk|hk|hk|hk|hk
  · rw [zaO (.inl hk),zcL,zci h (.inl hk),hk];rfl
  · rw [zaO (.inr hk),zcL,zci h (.inr hk),hk];rfl
  rotate_left 2
  · obtain ⟨⟨k,hkk,hkr⟩,h1,h2,h3⟩:=zaI h hk
    rw [zbk hk hkk]
    have hmem:k∈p.kids:=by rw [hkk];exact List.mem_cons_self
    have hf:=ih k hmem hkr (he k hmem)
    have hl:0 < (lenP (normal k)).low:=by
      rw [zkX k hkr]
      unfold endB at h0
      rw [hkk,hk] at h0
      simpa using h0
    refine ze8 (by decide) fun x hx=>?_
    rcases List.mem_append.1 hx with hx|hx
    · rw [(List.mem_replicate.1 hx).2];exact hf
    · unfold moreP at hx
      split at hx
      · obtain rfl:=List.mem_singleton.1 hx;exact zew hf hl
      · split at hx
        · obtain rfl:=List.mem_singleton.1 hx;exact zg2 hf hl _
        · cases hx
  all_goals
    rw [za1 (by omega)]
    refine ze8 (by omega) fun x hx=>?_
    obtain ⟨y,hy,rfl⟩:=List.mem_map.1 hx
    exact ih y hy (hr y hy) (he y hy)
def wtP:Pt→Nat:=foldP fun p ks=>(if p.kind=5 then 2 else if p.kind=1 then 1 else 0)+ks.sum
theorem zpK (p:Pt):wtP p=(if p.kind=5 then 2 else if p.kind=1 then 1 else 0)+(p.kids.map wtP).sum:=by unfold wtP;rw [zaV]
def mayB (E:List Pt) (v:Mv):Bool:=v.elem == -1 || match E[v.elem.toNat]? with
  | none=>false
  | some p=>p.kind==1
structure Rk (E:List Pt) (m m':Mach) (f g:Int→Int):Prop where
  ag:∀ x,x < m.states→g x=f x
  st:m.states≤m'.states
  mv:∃ new,m'.moves=m.moves++new∧ ∀ v∈new,v.src < m'.states∧v.dst < m'.states∧(mayB E v=true→g v.dst < g v.src)
theorem Rk.nil {E:List Pt} {m:Mach} {f:Int→Int}:Rk E m m f f:=⟨fun _ _=>rfl,Int.le_refl _,[],by simp,by simp⟩
theorem Rk.trans {E:List Pt} {m m' m2:Mach} {f g h:Int→Int} (h1:Rk E m m' f g) (h2:Rk E m' m2 g h):Rk E m m2 f h:=by
  obtain ⟨a1,a2,n1,a3,a4⟩:=h1
  obtain ⟨b1,b2,n2,b3,b4⟩:=h2
  refine ⟨fun x hx=>by rw [b1 x (by omega),a1 x hx],by omega,n1++n2,by rw [b3,a3,List.append_assoc],fun v hv=>?_⟩
  rcases List.mem_append.1 hv with hv|hv
  · obtain ⟨c1,c2,c3⟩:=a4 v hv
    refine ⟨by omega,by omega,fun hm=>?_⟩
    rw [b1 _ c1,b1 _ c2];exact c3 hm
  · exact b4 v hv
theorem Rk.free {E:List Pt} {m:Mach} {f:Int→Int} {s t:Int} (hs:s < m.states) (ht:t < m.states) (h:f t < f s):Rk E m (mvM s t (-1) m) f f :=
  ⟨fun _ _=>rfl,Int.le_refl _,[⟨s,t, -1⟩],rfl,fun v hv=>by obtain rfl:=List.mem_singleton.1 hv;exact ⟨hs,ht,fun _=>h⟩⟩
def putR (f:Int→Int) (n c:Int) (x:Int):Int:=if x=n then c else f x
theorem zfl {f:Int→Int} {n c:Int}:putR f n c n=c:=if_pos rfl
theorem zdU {f:Int→Int} {n c x:Int} (h:x≠n):putR f n c x=f x:=if_neg h
theorem Rk.new {E:List Pt} {m:Mach} {f:Int→Int} (c:Int):Rk E m (stM m) f (putR f m.states c) :=
  ⟨fun x hx=>zdU (by omega),by show m.states≤m.states+1;omega,[],by simp [stM],by simp⟩
theorem zjU {l:List Sp} {s:Sp} (h:s∈l) (h0:s.low=0):(altS l).low=0:=by
  have key:∀ (l:List Sp) (t:Sp),(t.low=0∨s∈l)→(l.foldl orS t).low=0:=fun l=>by
    induction l with
    | nil=>intro t h;exact h.resolve_right (by simp)
    | cons u l ih =>
      intro t h
      rw [List.foldl_cons]
      refine ih _ ?_
      rcases h with h|h
      · exact .inl (by show min t.low u.low=0;omega)
      · rcases List.mem_cons.1 h with rfl|h
        · exact .inl (by show min t.low s.low=0;omega)
        · exact .inr h
  cases l with
  | nil=>cases h
  | cons t l =>
    refine key l t ?_
    rcases List.mem_cons.1 h with rfl|h
    · exact .inl h0
    · exact .inr h
theorem zin:∀ {l:List Pt},(∀ k∈l,(lenP k).low=0)→(spanS (l.map lenP)).low=0
  | [],_=>rfl
  | k :: l,h=>by
    have h1:=h k List.mem_cons_self
    have h2:=zin (l:=l) fun x hx=>h x (List.mem_cons_of_mem _ hx)
    rw [List.map_cons,zbB _ (zbb k)]
    have:=zgJ (lenP k) (spanS (l.map lenP))
    omega
theorem zdg (p:Pt) (s t:Int) (m:Mach) (h:shapeP p=true):(layM p s t m).elems=m.elems++elems p∧m.states≤(layM p s t m).states:=⟨(zgC p s t m h).el,by have:=(zgC p s t m h).st;omega⟩
theorem znz (E:List Pt):∀ (p:Pt) (s t:Int) (m:Mach) (f:Int→Int),shapeP p=true→starP p=true→s < m.states→t < m.states→(layM p s t m).elems <+: E→((lenP p).low=0→f t+wtP p≤f s)→ ∃ g,Rk E m (layM p s t m) f g:=Pt.ind fun p ih s t m f hs hst hsl htl hE hc=>by
  have hsk:=zbz hs
  have htk:=zfb hst
  have hw:=zpK p
  have hl:=zcz p
  rcases zbQ hs with ⟨hk,hk0⟩ | ⟨hk,hne⟩ | ⟨hk,⟨k,hkk⟩,hm⟩
  · rw [zcx hk] at hE ⊢
    have hp:E[m.elems.length]?=some p:=by
      obtain ⟨r,hr⟩:=hE
      rw [← hr]
      simp [elM,mvM]
    refine ⟨f,fun _ _=>rfl,Int.le_refl _,[⟨s,t,m.elems.length⟩],rfl,fun v hv=>?_⟩
    obtain rfl:=List.mem_singleton.1 hv
    refine ⟨hsl,htl,fun hmay=>?_⟩
    unfold mayB at hmay
    dsimp only at hmay ⊢
    rw [Int.toNat_natCast,hp] at hmay
    have hk1:p.kind=1:=by
      have:((m.elems.length:Int) == -1)=false:=by
        rw [beq_eq_false_iff_ne];omega
      rw [this] at hmay
      simpa using hmay
    rw [if_pos hk1] at hl
    rw [if_neg (by omega),if_pos hk1] at hw
    have:=hc (by rw [hl];rfl)
    omega
  · by_cases k3:p.kind=3
    · rw [if_neg (by omega),if_neg (by omega),if_neg (by omega),if_neg (by omega)] at hl
      rw [if_neg (by omega),if_neg (by omega)] at hw
      have hlen:0 < p.kids.length:=List.length_pos_iff.2 hne
      obtain ⟨k,hkl⟩:∃ k,p.kids[p.kids.length - 1]?=some k:=⟨_,List.getElem?_eq_getElem (by omega)⟩
      have hmem:=List.mem_of_getElem? hkl
      have hsp:p.kids=p.kids.take (p.kids.length - 1)++[k]:=by
        conv=>lhs;rw [← List.take_append_drop (p.kids.length - 1) p.kids]
        congr 1
        rw [List.drop_eq_getElem_cons (by omega),(List.getElem?_eq_some_iff.1 hkl).2,List.drop_eq_nil_of_le (by omega)]
      have key:∀ (l:List Pt),(∀ x∈l,x∈p.kids)→ ∀ (x:Int × Mach) (f:Int→Int),x.1 < x.2.states→t < x.2.states→(layM k (l.foldl upP x).1 t (l.foldl upP x).2).elems <+: E→(((∀ y∈l,(lenP y).low=0)∧(lenP k).low=0)→f t+(l.map wtP).sum+wtP k≤f x.1)→
          ∃ g,Rk E x.2 (layM k (l.foldl upP x).1 t (l.foldl upP x).2) f g:=by
        intro l
        induction l with
        | nil =>
          intro _ x f h1 h2 h3 h4
          exact ih k hmem x.1 t x.2 f (hsk k hmem) (htk k hmem) h1 h2 h3 fun h0=>by
            have:=h4 ⟨by simp,h0⟩
            simpa using this
        | cons a l ihl =>
          intro hal x f h1 h2 h3 h4
          rw [List.foldl_cons] at h3 ⊢
          have ham:=hal a List.mem_cons_self
          have hpre:∀ (l:List Pt),(∀ x∈l,x∈p.kids)→ ∀ (x:Int × Mach),x.2.elems <+: (l.foldl upP x).2.elems:=by
            intro l
            induction l with
            | nil=>intro _ x;exact ⟨[],by simp⟩
            | cons b l ihb =>
              intro hb x
              rw [List.foldl_cons]
              refine List.IsPrefix.trans ?_ (ihb (fun y hy=>hb y (List.mem_cons_of_mem _ hy)) (upP x b))
              have:=(zdg b x.1 x.2.states (stM x.2) (hsk b (hb b List.mem_cons_self))).1
              exact ⟨elems b,this.symm⟩
          have hpa:(upP x a).2.elems <+: E:=by
            refine List.IsPrefix.trans (hpre l (fun y hy=>hal y (List.mem_cons_of_mem _ hy)) (upP x a)) (List.IsPrefix.trans ?_ h3)
            exact ⟨elems k,((zdg k _ t _ (hsk k hmem)).1).symm⟩
          obtain ⟨c,hc1,hc2⟩:∃ c:Int,((lenP a).low=0→c+wtP a≤f x.1)∧(((∀ y∈l,(lenP y).low=0)∧(lenP k).low=0)→f t+(l.map wtP).sum+wtP k≤c):=by
            by_cases h0:(lenP a).low=0
            · refine ⟨f x.1 - wtP a,fun _=>by omega,fun ⟨q1,q2⟩=>?_⟩
              have:=h4 ⟨fun y hy=>by
                rcases List.mem_cons.1 hy with rfl|hy
                · exact h0
                · exact q1 y hy,q2⟩
              rw [List.map_cons,List.sum_cons] at this
              push_cast at this
              omega
            · exact ⟨f t+(l.map wtP).sum+wtP k,fun h=>absurd h h0,fun _=>Int.le_refl _⟩
          have hnew:Rk E x.2 (stM x.2) f (putR f x.2.states c):=Rk.new c
          have e1:putR f x.2.states c x.1=f x.1:=zdU (by omega)
          obtain ⟨g1,hg1⟩:=ih a ham x.1 x.2.states (stM x.2) (putR f x.2.states c) (hsk a ham) (htk a ham) (by show x.1 < x.2.states+1;omega) (by show x.2.states < x.2.states+1;omega) hpa fun h0=>by
            rw [zfl,e1];exact hc1 h0
          have h12:=hnew.trans hg1
          have hst2:x.2.states+1≤(upP x a).2.states:=hg1.st
          obtain ⟨g2,hg2⟩:=ihl (fun y hy=>hal y (List.mem_cons_of_mem _ hy)) (upP x a) g1 (by show x.2.states < _;omega) (by omega) h3 fun h0=>by
            have q1:g1 (upP x a).1=c:=by
              show g1 x.2.states=c
              rw [hg1.ag _ (by show x.2.states < x.2.states+1;omega),zfl]
            have q2:g1 t=f t:=by rw [hg1.ag _ (by show t < x.2.states+1;omega),zdU (by omega)]
            rw [q1,q2];exact hc2 h0
          exact ⟨g2,h12.trans hg2⟩
      rw [zdj k3 hkl] at hE ⊢
      refine key (p.kids.take (p.kids.length - 1)) (fun y hy=>List.mem_of_mem_take hy) (s,m) f hsl htl hE fun ⟨q1,q2⟩=>?_
      have h0:(lenP p).low=0:=by
        rw [hl]
        refine zin fun y hy=>?_
        rw [hsp] at hy
        rcases List.mem_append.1 hy with hy|hy
        · exact q1 y hy
        · obtain rfl:=List.mem_singleton.1 hy;exact q2
      have:=hc h0
      have e2:(p.kids.map wtP).sum=((p.kids.take (p.kids.length - 1)).map wtP).sum+wtP k:=by
        conv=>lhs;rw [hsp]
        rw [List.map_append,List.sum_append];simp
      dsimp only
      omega
    · have k4:p.kind=4:=by omega
      rw [if_neg (by omega),if_neg (by omega),if_neg (by omega),if_pos k4] at hl
      rw [if_neg (by omega),if_neg (by omega)] at hw
      rw [zde k4] at hE ⊢
      have hpre:∀ (l:List Pt),(∀ x∈l,x∈p.kids)→ ∀ (x:Mach),x.elems <+: (l.foldl (fun m k=>layM k s t m) x).elems:=by
        intro l
        induction l with
        | nil=>intro _ x;exact ⟨[],by simp⟩
        | cons b l ihb =>
          intro hb x
          rw [List.foldl_cons]
          refine List.IsPrefix.trans ?_ (ihb (fun y hy=>hb y (List.mem_cons_of_mem _ hy)) _)
          exact ⟨elems b,((zdg b s t x (hsk b (hb b List.mem_cons_self))).1).symm⟩
      have key:∀ (l:List Pt),(∀ x∈l,x∈p.kids)→ ∀ (x:Mach) (f:Int→Int),s < x.states→t < x.states→(l.foldl (fun m k=>layM k s t m) x).elems <+: E→((lenP p).low=0→f t+wtP p≤f s)→
          ∃ g,Rk E x (l.foldl (fun m k=>layM k s t m) x) f g:=by
        intro l
        induction l with
        | nil=>intro _ x f _ _ _ _;exact ⟨f,Rk.nil⟩
        | cons a l ihl =>
          intro hal x f h1 h2 h3 h4
          rw [List.foldl_cons] at h3 ⊢
          have ham:=hal a List.mem_cons_self
          have hwa:wtP a≤wtP p:=by rw [hw];have:=zgG wtP p.kids a ham;omega
          obtain ⟨g1,hg1⟩:=ih a ham s t x f (hsk a ham) (htk a ham) h1 h2 (List.IsPrefix.trans (hpre l (fun y hy=>hal y (List.mem_cons_of_mem _ hy)) _) h3) fun h0=>by
            have:=h4 (by rw [hl];exact zjU (List.mem_map_of_mem ham) h0)
            omega
          have:=hg1.st
          obtain ⟨g2,hg2⟩:=ihl (fun y hy=>hal y (List.mem_cons_of_mem _ hy)) _ g1 (by omega) (by omega) h3 fun h0=>by
            rw [hg1.ag s h1,hg1.ag t h2];exact h4 h0
          exact ⟨g2,hg1.trans hg2⟩
      exact key p.kids (fun _ h=>h) m f hsl htl hE hc
  · have hmem:k∈p.kids:=by rw [hkk];exact List.mem_cons_self
    obtain ⟨hmin,hlow⟩:=zhz hst hk hkk
    have h0:(lenP p).low=0:=by
      rw [zbY hk hkk,hmin]
      show sat ((lenP k).low * 0)=0
      rw [Nat.mul_zero];rfl
    have hc:=hc h0
    rw [if_pos hk,hkk] at hw
    simp only [List.map_cons,List.map_nil,List.sum_cons,List.sum_nil,Nat.add_zero] at hw
    rcases hm with hm|hm
    · rw [zdh hk hkk hm] at hE ⊢
      obtain ⟨g,hg⟩:=ih k hmem s t (mvM s t (-1) m) f (hsk k hmem) (htk k hmem) hsl htl hE fun h=>by omega
      exact ⟨g,(Rk.free hsl htl (by omega)).trans hg⟩
    · rw [zct hk hkk (by omega)] at hE ⊢
      have h1:Rk E m (stM m) f (putR f m.states (f t+1)):=Rk.new _
      have es:putR f m.states (f t+1) s=f s:=zdU (by omega)
      have et:putR f m.states (f t+1) t=f t:=zdU (by omega)
      have h2:Rk E (stM m) (mvM s m.states (-1) (stM m)) (putR f m.states (f t+1)) (putR f m.states (f t+1)):=Rk.free (by show s < m.states+1;omega) (by show m.states < m.states+1;omega) (by rw [zfl,es];omega)
      obtain ⟨g,hg⟩:=ih k hmem m.states m.states (mvM s m.states (-1) (stM m)) (putR f m.states (f t+1)) (hsk k hmem) (htk k hmem) (by show m.states < m.states+1;omega) (by show m.states < m.states+1;omega) hE fun h=>by omega
      have hgs:m.states+1≤(layM k m.states m.states (mvM s m.states (-1) (stM m))).states:=hg.st
      refine ⟨g,((h1.trans h2).trans hg).trans (Rk.free (by omega) (by omega) ?_)⟩
      rw [hg.ag t (by show t < m.states+1;omega),hg.ag m.states (by show m.states < m.states+1;omega),zfl,et];omega
theorem zkT {p:Pt} (hs:shapeP p=true) (hst:starP p=true):∃ g:Int→Int, ∀ v∈(buildM p).moves,mayB (buildM p).elems v=true→g v.dst < g v.src:=by
  obtain ⟨g,_,_,new,h1,h2⟩:=znz (buildM p).elems p 0 1 ⟨[],[],2⟩ (fun x=>if x=0 then wtP p else 0) hs hst (by decide) (by decide) ⟨[],List.append_nil _⟩ fun _=>by simp
  refine ⟨g,fun v hv=>(h2 v ?_).2.2⟩
  have:(buildM p).moves=[]++new:=h1
  rw [this] at hv;simpa using hv
theorem zdG {p q:Nat→Bool}:∀ {l:List Nat},(∀ x∈l,p x=true→q x=true)→(∃ x∈l,q x=true∧p x=false)→l.countP p < l.countP q
  | [],_,⟨x,hx,_⟩=>by cases hx
  | a :: l,h,⟨x,hx,h1,h2⟩=>by
    have hm:l.countP p≤l.countP q:=List.countP_mono_left fun y hy=>h y (List.mem_cons_of_mem _ hy)
    rw [List.countP_cons,List.countP_cons]
    by_cases hxl:x∈l
    · have:=zdG (fun y hy=>h y (List.mem_cons_of_mem _ hy)) ⟨x,hxl,h1,h2⟩
      have ha:=h a List.mem_cons_self
      by_cases hp:p a=true
      · rw [if_pos hp,if_pos (ha hp)];omega
      · rw [if_neg hp];omega
    · obtain rfl:x=a:=by
        rcases List.mem_cons.1 hx with h|h
        · exact h
        · exact absurd h hxl
      rw [if_neg (by simp [h2]),if_pos h1];omega
def rkN (g:Int→Int) (n:Nat) (x:Int):Nat:=(List.range n).countP fun y:Nat=>decide (g (y:Int) < g x)
theorem zpc {g:Int→Int} {n:Nat} {x:Int} (h0:0≤x) (hx:x < n):rkN g n x < n:=by
  have h1:(List.range n).countP (fun y:Nat=>decide (g (y:Int) < g x)) < (List.range n).countP fun _=>true:=zdG (fun _ _ _=>rfl) ⟨x.toNat,List.mem_range.2 (by omega),rfl,by rw [Int.toNat_of_nonneg h0];simp⟩
  have h2:((List.range n).countP fun _=>true)≤n:=by
    have:=List.countP_le_length (p:=fun _:Nat=>true) (l:=List.range n)
    rwa [List.length_range] at this
  unfold rkN;omega
theorem zm1 {g:Int→Int} {n:Nat} {x y:Int} (h0:0≤x) (hx:x < n) (h:g x < g y):rkN g n x < rkN g n y:=by
  unfold rkN
  refine zdG (fun z _ hz=>?_) ⟨x.toNat,List.mem_range.2 (by omega),?_,?_⟩
  · simp only [decide_eq_true_eq] at hz ⊢;omega
  · rw [Int.toNat_of_nonneg h0];simpa using h
  · rw [Int.toNat_of_nonneg h0];simp
end Go.Proofs.YtiplihojmfbjkaaGreat
