/- Plain data of the program's types: expressions,texts,patterns. -/
import Derived.Test.YtiplihojmfbjkaaGreatWO
import Derived.Test.YtiplihojmfbjkaaGreatWE
import Derived.Test.YtiplihojmfbjkaaGreatWI
import Derived.Test.YtiplihojmfbjkaaGreatWT
import Derived.Test.YtiplihojmfbjkaaGreatEH
import Derived.Test.YtiplihojmfbjkaaGreatVC
import Derived.Test.YtiplihojmfbjkaaGreatWM
set_option maxRecDepth 100000
set_option maxHeartbeats 4000000
namespace Go.Proofs.YtiplihojmfbjkaaGreat
open Go.RowKit Go.ChangeShapes Go.WideShapes Go.Deep
theorem zb1 {α:Type} (f:α→List D) (p:List D→Prop) (h:∀ q,p q→ ∃ x,q=f x):∀ rows:List (List D),(∀ q∈rows,p q)→ ∃ l:List α,rows=l.map f
  | [],_=>⟨[],rfl⟩
  | q :: rows,hr=>by
    obtain ⟨x,rfl⟩:=h q (hr q List.mem_cons_self)
    obtain ⟨l,rfl⟩:=zb1 f p h rows fun q hq=>hr q (List.mem_cons_of_mem _ hq)
    exact ⟨x :: l,rfl⟩
theorem zdi {P:Program} {n:Nat} {t:TypeId} {ds:List D} (h:Sh P n t ds):∃ m,n=m+1:=by
  cases n with
  | zero=>exact h.elim
  | succ m=>exact ⟨m,rfl⟩
section
variable {P:Program} {n:Nat} {t:TypeId} {ds:List D}
theorem zcp {k:IntKind} (hu:P.underlying t=some (.int k)) (h:Sh P n t ds):∃ m,(Lit.int k m).wf=true∧ds=[.v (.int k m)]:=by
  obtain ⟨m,rfl⟩:=zdi h;unfold Sh at h;rw [hu] at h;exact h
theorem zol (hu:P.underlying t=some .bool) (h:Sh P n t ds):∃ b,ds=[.v (.bool b)]:=by
  obtain ⟨m,rfl⟩:=zdi h;unfold Sh at h;rw [hu] at h;exact h
theorem zc0 (hu:P.underlying t=some .string) (h:Sh P n t ds):∃ s:ByteArray,s.size≤140737488351232∧ds=[.v (.string s)]:=by
  obtain ⟨m,rfl⟩:=zdi h;unfold Sh at h;rw [hu] at h;exact h
theorem zmA {k:FloatKind} (hu:P.underlying t=some (.float k)) (h:Sh P n t ds):∃ m,ds=[.v (.float k m)]:=by
  obtain ⟨m,rfl⟩:=zdi h;unfold Sh at h;rw [hu] at h;exact h
theorem zcr {e:TypeId} (hu:P.underlying t=some (.slice e)) (h:Sh P n t ds):∃ m rows,n=m+1∧ds=[.sl rows]∧rows.length * P.bytesOf e≤140737488351232∧ ∀ q∈rows,Sh P m e q:=by
  obtain ⟨m,rfl⟩:=zdi h;unfold Sh at h;rw [hu] at h
  obtain ⟨rows,h1,h2,h3⟩:=h
  exact ⟨m,rows,rfl,h1,h2,fun q hq=>(h3 q hq).1⟩
theorem zb4 {fs:Array Field} (hu:P.underlying t=some (.struct fs)) (h:Sh P n t ds):∃ m,n=m+1∧ds.length=P.cellsOf t∧ ∀ (i:Nat) (f:Field),fs[i]?=some f→Sh P m f.type ((ds.drop f.offset).take (P.cellsOf f.type)):=by
  obtain ⟨m,rfl⟩:=zdi h;unfold Sh at h;rw [hu] at h
  exact ⟨m,rfl,h.1,h.2⟩
end
theorem zh3 {n:Nat} {ds:List D} (h:Sh Tryz.prog n 79 ds):∃ l:List ByteArray,ds=[.sl (l.map encS)]∧l.length * 16≤140737488351232∧ ∀ s∈l,s.size≤140737488351232:=by
  obtain ⟨m,rows,rfl,rfl,hb,hr⟩:=zcr Tryz.underlying79 h
  obtain ⟨l,rfl⟩:=zb1 encS (fun q=>Sh Tryz.prog m 9 q) (fun q hq=>by
    obtain ⟨s,_,rfl⟩:=zc0 Tryz.underlying9 hq;exact ⟨s,rfl⟩) rows hr
  have kb:Tryz.prog.bytesOf 9=16:=by kernel_rfl
  rw [kb,List.length_map] at hb
  refine ⟨l,rfl,hb,fun s hs=>?_⟩
  obtain ⟨s',h1,h2⟩:=zc0 Tryz.underlying9 (hr (encS s) (List.mem_map_of_mem hs))
  simp only [encS,List.cons.injEq,D.v.injEq,Value.string.injEq,and_true] at h2
  rw [h2];exact h1
theorem zhe {n:Nat} {ds:List D} (h:Sh Tryz.prog n 28 ds):∃ v:Val,ds=encV v:=by
  obtain ⟨m,rfl,hl,hf⟩:=zb4 Tryz.underlying28 h
  have k1:Tryz.prog.cellsOf 3=1:=by kernel_rfl
  have k2:Tryz.prog.cellsOf 2=1:=by kernel_rfl
  have k3:Tryz.prog.cellsOf 9=1:=by kernel_rfl
  have k4:Tryz.prog.cellsOf 26=1:=by kernel_rfl
  have k5:Tryz.prog.cellsOf 28=4:=by kernel_rfl
  rw [k5] at hl
  match ds,hl with
  | [a,b,c,d],_ =>
    obtain ⟨x0,_,e0⟩:=zcp Tryz.underlying3 (show Sh Tryz.prog m 3 [a] by simpa [k1] using hf 0 _ rfl)
    obtain ⟨x1,_,e1⟩:=zcp Tryz.underlying2 (show Sh Tryz.prog m 2 [b] by simpa [k2] using hf 1 _ rfl)
    obtain ⟨x2,e2⟩:=zmA Tryz.underlying26 (show Sh Tryz.prog m 26 [c] by simpa [k4] using hf 2 _ rfl)
    obtain ⟨x3,_,e3⟩:=zc0 Tryz.underlying9 (show Sh Tryz.prog m 9 [d] by simpa [k3] using hf 3 _ rfl)
    simp only [List.cons.injEq,and_true] at e0 e1 e2 e3
    exact ⟨⟨x0,x1,x2,x3⟩,by rw [e0,e1,e2,e3];rfl⟩
theorem ziz:∀ (n:Nat) (ds:List D),Sh Tryz.prog n 31 ds→ ∃ e:E,ds=encE e:=by
  intro n
  induction n using Nat.strongRecOn with
  | _ n ih =>
  intro ds h
  obtain ⟨m,rfl,hl,hf⟩:=zb4 Tryz.underlying31 h
  have k1:Tryz.prog.cellsOf 3=1:=by kernel_rfl
  have k3:Tryz.prog.cellsOf 9=1:=by kernel_rfl
  have k4:Tryz.prog.cellsOf 29=1:=by kernel_rfl
  have k5:Tryz.prog.cellsOf 28=4:=by kernel_rfl
  have k6:Tryz.prog.cellsOf 31=7:=by kernel_rfl
  rw [k6] at hl
  match ds,hl with
  | [a0,a1,a2,a3,a4,a5,a6],_ =>
    obtain ⟨x0,_,e0⟩:=zcp Tryz.underlying3 (show Sh Tryz.prog m 3 [a0] by simpa [k1] using hf 0 _ rfl)
    obtain ⟨x1,_,e1⟩:=zc0 Tryz.underlying9 (show Sh Tryz.prog m 9 [a1] by simpa [k3] using hf 1 _ rfl)
    obtain ⟨x2,e2⟩:=zhe (show Sh Tryz.prog m 28 [a2,a3,a4,a5] by simpa [k5] using hf 2 _ rfl)
    obtain ⟨m3,rows,hm3,e3,_,hr⟩:=zcr Tryz.underlying29 (show Sh Tryz.prog m 29 [a6] by simpa [k4] using hf 3 _ rfl)
    simp only [List.cons.injEq,and_true,encV] at e0 e1 e2 e3
    obtain ⟨l,rfl⟩:=zb1 encE (fun q=>Sh Tryz.prog m3 31 q) (fun q hq=>ih m3 (by omega) q hq) rows hr
    obtain ⟨e2,e2',e2'',e2'''⟩:=e2
    exact ⟨⟨x0,x1,x2,l⟩,by rw [zbw,e0,e1,e2,e2',e2'',e2''',e3]⟩
theorem znS:∀ (n:Nat) (ds:List D),Sh Tryz.prog n 34 ds→ ∃ e:Pt,ds=encP e:=by
  intro n
  induction n using Nat.strongRecOn with
  | _ n ih =>
  intro ds h
  obtain ⟨m,rfl,hl,hf⟩:=zb4 Tryz.underlying34 h
  have k1:Tryz.prog.cellsOf 3=1:=by kernel_rfl
  have k3:Tryz.prog.cellsOf 9=1:=by kernel_rfl
  have k4:Tryz.prog.cellsOf 32=1:=by kernel_rfl
  have k5:Tryz.prog.cellsOf 31=7:=by kernel_rfl
  have k6:Tryz.prog.cellsOf 34=20:=by kernel_rfl
  rw [k6] at hl
  match ds,hl with
  | [a0,a1,a2,b0,b1,b2,b3,b4,b5,b6,c0,c1,c2,c3,c4,c5,c6,a5,a6,a7],_ =>
    obtain ⟨x0,_,e0⟩:=zcp Tryz.underlying3 (show Sh Tryz.prog m 3 [a0] by simpa [k1] using hf 0 _ rfl)
    obtain ⟨x1,_,e1⟩:=zc0 Tryz.underlying9 (show Sh Tryz.prog m 9 [a1] by simpa [k3] using hf 1 _ rfl)
    obtain ⟨x2,_,e2⟩:=zcp Tryz.underlying3 (show Sh Tryz.prog m 3 [a2] by simpa [k1] using hf 2 _ rfl)
    obtain ⟨x3,e3⟩:=ziz _ _ (show Sh Tryz.prog m 31 [b0,b1,b2,b3,b4,b5,b6] by simpa [k5] using hf 3 _ rfl)
    obtain ⟨x4,e4⟩:=ziz _ _ (show Sh Tryz.prog m 31 [c0,c1,c2,c3,c4,c5,c6] by simpa [k5] using hf 4 _ rfl)
    obtain ⟨x5,_,e5⟩:=zcp Tryz.underlying3 (show Sh Tryz.prog m 3 [a5] by simpa [k1] using hf 5 _ rfl)
    obtain ⟨x6,_,e6⟩:=zcp Tryz.underlying3 (show Sh Tryz.prog m 3 [a6] by simpa [k1] using hf 6 _ rfl)
    obtain ⟨m3,rows,hm3,e7,_,hr⟩:=zcr Tryz.underlying32 (show Sh Tryz.prog m 32 [a7] by simpa [k4] using hf 7 _ rfl)
    obtain ⟨l,rfl⟩:=zb1 encP (fun q=>Sh Tryz.prog m3 34 q) (fun q hq=>ih m3 (by omega) q hq) rows hr
    rw [zbw] at e3 e4
    simp only [List.cons.injEq,and_true] at e0 e1 e2 e3 e4 e5 e6 e7
    obtain ⟨f0,f1,f2,f3,f4,f5,f6⟩:=e3
    obtain ⟨g0,g1,g2,g3,g4,g5,g6⟩:=e4
    exact ⟨⟨x0,x1,x2,x3,x4,x5,x6,l⟩,by rw [zaM,e0,e1,e2,f0,f1,f2,f3,f4,f5,f6,g0,g1,g2,g3,g4,g5,g6,e5,e6,e7]⟩
def simpleL:List TypeId:=[3,2,4,9,26,79,28,31,29,34,32]
section
variable {S:Nat→Nat→Prop} {w:World} {ds:List D} {v:Value}
theorem zoZ {rows:List (List D)} {A:Option Addr} {n c:Nat} (hv:v=.slice A n c) (h:RDL S w [.sl rows] v.cells.toList):PV S w (vL rows) v:=fun _ _=>by
  obtain ⟨u,hu,hr⟩:=h.2 0 _ rfl
  subst hv
  simp only [Value.cells,List.getElem?_cons_zero,Option.some.injEq] at hu
  subst hu
  exact .one hr
theorem zj9 {us:Array Value} (hv:v=.agg us) (h:RDL S w ds v.cells.toList):PV S w (.dat ds) v:=fun _ _=>by
  subst hv
  have h2:RDL S w ds us.toList:=h
  have:=RV.dat (γ := ‹Nat→Nat›) (T := ‹Nat→Value›) h2
  rwa [Array.toArray_toList] at this
theorem zp9 {x:Value} (h:x.oneCell'=true):PV S w (.one (.d (.v x))) x:=fun _ _=>.one (.v _ h)
theorem zls:ArgsR S w [] []:=⟨rfl,fun j y v h=>by simp at h⟩
theorem zc7 {x:VV} {xs:List VV} {vs:List Value} (h:PV S w x v) (k:ArgsR S w xs vs):ArgsR S w (x :: xs) (v :: vs) :=
  ⟨by simp [k.1],fun j y u hy hu=>by
    cases j with
    | zero=>simp only [List.getElem?_cons_zero,Option.some.injEq] at hy hu;subst hy;subst hu;exact h
    | succ j=>exact k.2 j y u (by simpa using hy) (by simpa using hu)⟩
end
section
variable {H:Type} {enc:TypeId × Value→H} {w:World} {base b0:Nat} {spare:Nat→Bool} {held:Bool} {r:Reach} {ts:List TypeId} {ds:List (DataW H)}
end
end Go.Proofs.YtiplihojmfbjkaaGreat
namespace Go.Proofs.YtiplihojmfbjkaaGreat
open Go.RowKit Go.ChangeShapes Go.WideShapes Go.Deep
theorem zmE {n:Nat} {ds:List D} (h:Sh Tryz.prog n 227 ds):∃ p:Pr,ds=encPr p:=by
  obtain ⟨m,rfl,hl,hf⟩:=zb4 Tryz.underlying227 h
  have k3:Tryz.prog.cellsOf 9=1:=by kernel_rfl
  have k5:Tryz.prog.cellsOf 28=4:=by kernel_rfl
  have k6:Tryz.prog.cellsOf 227=5:=by kernel_rfl
  rw [k6] at hl
  match ds,hl with
  | [a1,a2,a3,a4,a5],_ =>
    obtain ⟨x1,_,e1⟩:=zc0 Tryz.underlying9 (show Sh Tryz.prog m 9 [a1] by simpa [k3] using hf 0 _ rfl)
    obtain ⟨x2,e2⟩:=zhe (show Sh Tryz.prog m 28 [a2,a3,a4,a5] by simpa [k5] using hf 1 _ rfl)
    simp only [List.cons.injEq,and_true] at e1
    exact ⟨⟨x1,x2⟩,by unfold encPr;rw [e1,← e2]⟩
theorem zhh {n:Nat} {ds:List D} (h:Sh Tryz.prog n 80 ds):∃ l:List Pr,ds=[.sl (l.map encPr)]:=by
  obtain ⟨m,rows,rfl,rfl,_,hr⟩:=zcr Tryz.underlying80 h
  obtain ⟨l,rfl⟩:=zb1 encPr (fun q=>Sh Tryz.prog m 227 q) (fun q hq=>zmE hq) rows hr
  exact ⟨l,rfl⟩
section
variable {H:Type} {enc:TypeId × Value→H} {w:World} {base b0:Nat} {spare:Nat→Bool} {held:Bool} {r:Reach} {ts:List TypeId} {ds:List (DataW H)}
end
end Go.Proofs.YtiplihojmfbjkaaGreat
namespace Go.Proofs.YtiplihojmfbjkaaGreat
open Go.RowKit
def ownV (p:Pt):List ByteArray:=if emptyS p.var=true then [] else [p.var]
def varsP:Pt→List ByteArray:=foldP fun p ks=>ownV p++ks.flatten
theorem zfS (p:Pt):varsP p=ownV p++p.kids.flatMap varsP:=by unfold varsP;rw [zaV];rfl
abbrev lV (l:List ByteArray):C:=.own 1001 (l.map encS)
abbrev cV (l:List ByteArray):Cells:=[(1000,79,lV l)]
abbrev cD (l:List ByteArray):Cells:=[(1000,79,lV l),(1002,185,.fn 108 [1000])]
theorem zn4 (p:Pt) (l:List ByteArray) (hl:l.length+(ownV p).length≤1000000):CallsG Tryz.prog 108 [.dat (encP p),.one (.po 1000 0)] 1001 9 1 (cV l) (vB true) (cV (l++ownV p)):=by
  (refine zcn (Ty:=Ty) zad Tryz.func108 rfl rfl rfl (by rfl) fun w0 S0 hp=>?_;simp only [argsF,gO,cellsO,List.zipIdx_cons,List.zipIdx_nil,List.map_cons,List.map_nil,Nat.zero_add])
  cases hv:emptyS p.var with
  | true =>
    have h1:(!(p.var.toList==(⟨#[]⟩:ByteArray).toList))=false:=by rw [zaQ _ _ hv];rfl
    have hn:ownV p=[]:=by unfold ownV;rw [if_pos hv]
    rw [hn,List.append_nil]
    repeat refine nx ?_
    exact zfj (by rfl) rfl ghasA
  | false =>
    have h1:(!(p.var.toList==(⟨#[]⟩:ByteArray).toList))=true:=by rw [zaQ _ _ hv];rfl
    have hn:ownV p=[p.var]:=by unfold ownV;rw [if_neg (by rw [hv];decide)]
    rw [hn] at hl ⊢
    have hnx':l.map encS++[encS p.var]=(l++[p.var]).map encS:=by rw [List.map_append];rfl
    have hlm:(l.map encS).length=l.length:=List.length_map _
    simp only [List.length_singleton] at hl
    repeat refine nx ?_
    exact zfj (by rfl) rfl ghasA
def upto (l:List ByteArray) (ks:List Pt) (k:Nat):List ByteArray:=l++(ks.take k).flatMap varsP
theorem zlG (l:List ByteArray) (ks:List Pt):upto l ks 0=l:=by unfold upto;simp
theorem zhx {l:List ByteArray} {ks:List Pt} {k:Nat} {q:Pt} (hq:ks[k]?=some q):upto l ks (k+1)=upto l ks k++varsP q:=by
  unfold upto;rw [List.take_add_one,hq,Option.toList_some,List.flatMap_append,List.flatMap_singleton,List.append_assoc]
theorem zmy (l:List ByteArray) (ks:List Pt) (k:Nat) {q:Pt} (hq:ks[k]?=some q):(upto l ks k).length+(varsP q).length≤l.length+(ks.flatMap varsP).length:=by
  have h1:upto l ks k++varsP q=upto l ks (k+1):=(zhx hq).symm
  have h2:ks.flatMap varsP=(ks.take (k+1)).flatMap varsP++(ks.drop (k+1)).flatMap varsP:=by rw [← List.flatMap_append,List.take_append_drop]
  have h3:=congrArg List.length h1
  have h4:=congrArg List.length h2
  unfold upto at h3
  simp only [List.length_append] at h3 h4
  have h5:(upto l ks k).length=l.length+((ks.take k).flatMap varsP).length:=by unfold upto;rw [List.length_append]
  unfold upto at h5 ⊢
  omega
theorem znd (ks:List Pt) (l:List ByteArray) (hb:l.length+(ks.flatMap varsP).length≤1000000) (hk:∀ q∈ks, ∀ m:List ByteArray,m.length+(varsP q).length≤1000000→CallsG Tryz.prog 158 [.dat (encP q),.one (.po 1002 0)] 1001 9 1 (cD m) (vB false) (cD (m++varsP q))) :
    CallsG Tryz.prog 195 [vL (ks.map encP),.one (.fn 158 [1002])] 1001 9 1 (cD l) (vI (-1)) (cD (l++ks.flatMap varsP)):=by
  have hlm:(ks.map encP).length=ks.length:=List.length_map _
  (refine zcn (Ty:=Ty) zad Tryz.func195 rfl rfl rfl (by rfl) fun w0 S0 hp=>?_;simp only [argsF,gO,cellsO,List.zipIdx_cons,List.zipIdx_nil,List.map_cons,List.map_nil,Nat.zero_add])
  refine zbm (t:=0) rfl rfl fun hlim=>?_
  repeat refine nx ?_
  refine zay (α:=Nat) (fun k=>[(0,vL (ks.map encP)),(1,.one (.fn 158 [1002])),(7,vI ((ks.map encP).length:Int)),(8,vI k)]) (fun k=>[(1001,.tok 9 1),(1000,.cell 79 (lV (upto l ks k))),(1002,.cell 185 (.fn 108 [1000]))]) (fun k=>k≤ks.length) (fun k=>ks.length - k) 0 (Nat.zero_le _) subA (by rw [zlG];exact subA) ?_
  intro k hk1
  by_cases hlt:k < ks.length
  · obtain ⟨q,hq⟩:∃ q,ks[k]?=some q:=⟨_,List.getElem?_eq_getElem hlt⟩
    have hlen:=zmy l ks k hq
    have hQ:=hk q (List.mem_of_getElem? hq) (upto l ks k) (by omega)
    rw [← zhx hq] at hQ
    repeat (first|refine uG (hQ) ?_|refine nx ?_)
    exact ⟨k+1,by omega,hlt,subA,subA⟩
  · have hkl:k=ks.length:=by omega
    subst hkl
    have hfin:upto l ks ks.length=l++ks.flatMap varsP:=by unfold upto;rw [List.take_length]
    rw [hfin]
    repeat refine nx ?_
    exact zfj (by rfl) rfl ghasA
theorem zi4 (ks:List Pt) (l:List ByteArray) (hb:l.length+(ks.flatMap varsP).length≤1000000) (hk:∀ q∈ks, ∀ m:List ByteArray,m.length+(varsP q).length≤1000000→CallsG Tryz.prog 158 [.dat (encP q),.one (.po 1002 0)] 1001 9 1 (cD m) (vB false) (cD (m++varsP q))) :
    CallsG Tryz.prog 157 [vL (ks.map encP),.one (.fn 158 [1002])] 1001 9 1 (cD l) (vB false) (cD (l++ks.flatMap varsP)):=by
  have hI:=znd ks l hb hk
  (refine zcn (Ty:=Ty) zad Tryz.func157 rfl rfl rfl (by rfl) fun w0 S0 hp=>?_;simp only [argsF,gO,cellsO,List.zipIdx_cons,List.zipIdx_nil,List.map_cons,List.map_nil,Nat.zero_add])
  repeat (first|refine uG (hI) ?_|refine nx ?_)
  exact zfj (by rfl) rfl ghasA
theorem znX:∀ (p:Pt) (l:List ByteArray),l.length+(varsP p).length≤1000000→CallsG Tryz.prog 107 [.dat (encP p),.one (.fn 108 [1000])] 1001 9 1 (cV l) (vB true) (cV (l++varsP p)):=Pt.ind fun p ih l hl=>by
  have hC1:∀ q∈p.kids, ∀ m:List ByteArray,m.length+(varsP q).length≤1000000→CallsG Tryz.prog 158 [.dat (encP q),.one (.po 1002 0)] 1001 9 1 (cD m) (vB false) (cD (m++varsP q)):=fun q hq m hm=>by
    have hW:=ih q hq m hm
    (refine zcn (Ty:=Ty) zad Tryz.func158 rfl rfl rfl (by rfl) fun w0 S0 hp=>?_;simp only [argsF,gO,cellsO,List.zipIdx_cons,List.zipIdx_nil,List.map_cons,List.map_nil,Nat.zero_add])
    repeat (first|refine uG (hW) ?_|refine nx ?_)
    exact zfj (by rfl) rfl ghasA
  rw [zfS,List.length_append] at hl
  have hD:=zn4 p l (by omega)
  have hC:=zi4 p.kids (l++ownV p) (by rw [List.length_append];omega) hC1
  rw [zfS,← List.append_assoc]
  (refine zcn (Ty:=Ty) zad Tryz.func107 rfl rfl rfl (by rfl) fun w0 S0 hp=>?_;simp only [argsF,gO,cellsO,List.zipIdx_cons,List.zipIdx_nil,List.map_cons,List.map_nil,Nat.zero_add])
  repeat (first|refine uG (hD) ?_|refine nx ?_)
  refine uRn 3 1002 (zaH (hp 1002 rfl)) ?_
  repeat (first|refine uG (hC) ?_|refine nx ?_)
  exact zfj (by rfl) rfl ghasA
end Go.Proofs.YtiplihojmfbjkaaGreat
namespace Go.Proofs.YtiplihojmfbjkaaGreat
open Go.RowKit
theorem zpA (hc:SortsG Tryz.prog 109) (p:Pt) (hl:(varsP p).length≤1000000):CallsV Tryz.prog 57 [.dat (encP p)] (.own 9 1 ((sortB (varsP p)).map encS)):=by
  have hW:=znX p [] (by simpa using hl)
  rw [List.nil_append] at hW
  refine zbj (Ty:=Ty) zad Tryz.func57 rfl rfl rfl fun w0 S0 hS hp=>?_
  refine enA ?_
  repeat refine nx ?_
  refine uNc 3 1001 9 1 ?_
  refine uRn 3 1000 (zaH (hp 1000)) ?_
  repeat (first|refine uG (hW) ?_|refine nx ?_)
  refine uSt 1001 1000 (varsP p) hc hS hl ?_
  repeat refine nx ?_
  exact ⟨1001,by rfl,by rfl⟩
end Go.Proofs.YtiplihojmfbjkaaGreat
