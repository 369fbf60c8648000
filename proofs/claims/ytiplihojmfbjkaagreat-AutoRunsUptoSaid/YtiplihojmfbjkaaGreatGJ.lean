/- Walks: whether a graph and a pattern are small enough to be looked at. -/
import Derived.Test.YtiplihojmfbjkaaGreatGR
import Derived.Test.YtiplihojmfbjkaaGreatQG
import Derived.Test.YtiplihojmfbjkaaGreatWM
import Derived.Test.YtiplihojmfbjkaaGreatQ7
import Derived.Test.YtiplihojmfbjkaaGreatQ4
import Derived.Test.YtiplihojmfbjkaaGreatG3
import Derived.Test.YtiplihojmfbjkaaGreatGD
set_option maxRecDepth 100000
set_option maxHeartbeats 16000000
namespace Go.Proofs.YtiplihojmfbjkaaGreat
open Go.RowKit
structure SmallP (g:Gr) (p:Pt):Prop where
  n8:g.nodes.length≤8
  n0:0 < g.nodes.length
  e10:g.edges.length≤10
  cnt:countP p≤100
  right:graphRight g=0
  check:checkQ ⟨1,0,0,p⟩=0
  size:sizeN p≤40
section
variable {g:Gr} {p:Pt} (hN:∀ n∈g.nodes,n.props.length≤1048576) (hE:∀ n∈g.edges,n.props.length≤1048576) (hvb:(varsP p).length≤1000000)
include hN hE hvb
theorem zla (h:SmallP g p):CallsV Tryz.prog 29 [.dat (encG g),.dat (encP p)] (.val (vB true)):=by
  have hln:(g.nodes.map encNd).length=g.nodes.length:=List.length_map _
  have hle:(g.edges.map encEd).length=g.edges.length:=List.length_map _
  obtain ⟨h1,h2,h3,h4,h5,h6,h7⟩:=h
  have hG:=zeG g hN hE
  have hC:=zjR ⟨1,0,0,p⟩ hvb
  have hS:=ziK p (zfO h6).1
  have hK:=ziB p
  rw [h5] at hG
  rw [h6] at hC
  unfold encG at hG ⊢
  (refine zaa (Ty:=Ty) zad Tryz.func29 rfl rfl rfl fun w0 S0=>?_;refine enA ?_)
  repeat' (first|(refine isRL ?_;first|refine uBdQ ⟨1,0,0,p⟩ ?_|(refine isCl ?_;first|refine uC (hG) ?_|refine uC (hC) ?_|refine uC (hS) ?_|refine uC (hK) ?_))|refine nx ?_|(refine nx2 ?_ ?_<;>intro hb))
  exact zab (by rfl) rfl
theorem zmF (h:¬ SmallP g p):CallsV Tryz.prog 29 [.dat (encG g),.dat (encP p)] (.val (vB false)):=by
  have hln:(g.nodes.map encNd).length=g.nodes.length:=List.length_map _
  have hle:(g.edges.map encEd).length=g.edges.length:=List.length_map _
  have hG:=zeG g hN hE
  have hC:=zjR ⟨1,0,0,p⟩ hvb
  have hK:=ziB p
  generalize hgr:graphRight g=r at hG
  unfold encG at hG ⊢
  (refine zaa (Ty:=Ty) zad Tryz.func29 rfl rfl rfl fun w0 S0=>?_;refine enA ?_)
  by_cases h1:8 < g.nodes.length
  · repeat' (first|refine uC (hK) ?_|refine nx ?_|(refine nx2 ?_ ?_<;>intro hb))
    exact zab (by rfl) rfl
  by_cases h2:g.nodes.length=0
  · repeat' (first|refine uC (hK) ?_|refine nx ?_|(refine nx2 ?_ ?_<;>intro hb))
    exact zab (by rfl) rfl
  by_cases h3:10 < g.edges.length
  · repeat' (first|refine uC (hK) ?_|refine nx ?_|(refine nx2 ?_ ?_<;>intro hb))
    exact zab (by rfl) rfl
  by_cases h4:100 < countP p
  · repeat' (first|refine uC (hK) ?_|refine nx ?_|(refine nx2 ?_ ?_<;>intro hb))
    exact zab (by rfl) rfl
  by_cases h5:r=0
  · by_cases h6:checkQ ⟨1,0,0,p⟩=0
    · rw [h6] at hC
      have hS:=ziK p (zfO h6).1
      have h7:40 < sizeN p:=by
        refine Nat.lt_of_not_le fun h7=>h ⟨by omega,by omega,by omega,by omega,by rw [hgr];exact h5,h6,h7⟩
      subst h5
      repeat' (first|(refine isRL ?_;first|refine uBdQ ⟨1,0,0,p⟩ ?_|(refine isCl ?_;first|refine uC (hG) ?_|refine uC (hC) ?_|refine uC (hS) ?_|refine uC (hK) ?_))|refine nx ?_|(refine nx2 ?_ ?_<;>intro hb))
      exact zab (by rfl) rfl
    · generalize checkQ ⟨1,0,0,p⟩=c at hC h6
      subst h5
      repeat' (first|(refine isRL ?_;first|refine uBdQ ⟨1,0,0,p⟩ ?_|(refine isCl ?_;first|refine uC (hG) ?_|refine uC (hC) ?_|refine uC (hK) ?_))|refine nx ?_|(refine nx2 ?_ ?_<;>intro hb))
      exact zab (by rfl) rfl
  · repeat' (first|(refine isCl ?_;first|refine uC (hG) ?_|refine uC (hC) ?_|refine uC (hK) ?_)|refine nx ?_|(refine nx2 ?_ ?_<;>intro hb))
    exact zab (by rfl) rfl
end
end Go.Proofs.YtiplihojmfbjkaaGreat
namespace Go.Proofs.YtiplihojmfbjkaaGreat
open Go.RowKit
theorem zlY {m:Mach} {fit:List (List Bool)} {x:Int} {v:Mv} (h:staysB m fit x v=true):mayB m.elems v=true:=by
  unfold staysB at h;unfold mayB
  rw [Bool.or_eq_true] at h ⊢
  refine h.imp id fun h=>?_
  cases hq:m.elems[v.elem.toNat]? with
  | none=>rw [hq] at h;cases h
  | some p=>rw [hq] at h;dsimp only at h ⊢;rw [Bool.and_eq_true] at h;exact h.1
theorem znQ {p:Pt} {n:Nat} {fit:List (List Bool)} {g:Gr} {ns es:List Int} (hr:rightP p=true) (he:endsP p=true) (hok:RunOk (buildM (normal p)) n g fit ns es):∃ rk,(rnOf (buildM (normal p)) fit g ns es).Ok rk n:=by
  obtain ⟨gr,hg⟩:=zkT (zdq p hr) (zfq p hr he)
  refine ⟨rkN gr n,fun v hv=>?_,fun x h0 h1=>zpc h0 h1,fun i v hv hs=>?_⟩
  · exact hok.mach.inr v hv
  · obtain ⟨_,_,b3,b4⟩:=hok.mach.inr v hv
    exact zm1 b3 b4 (hg v hv (zlY hs))
theorem zoo {q:Qy} (h:checkQ q=0):endsP q.pat=true:=by
  unfold checkQ at h
  split at h
  · cases h
  split at h
  · cases h
  split at h
  · cases h
  unfold tailQ at h
  split at h
  · cases h
  split at h
  · cases h
  rename_i h1
  simpa using h1
theorem zpk {m:Mach} {n:Nat} {g:Gr} {fit:List (List Bool)} {ns es:List Int} {rk:Int→Nat} (hok:RunOk m n g fit ns es) (h2:2≤n) (hR:(rnOf m fit g ns es).Ok rk n) :
    CallsV Tryz.prog 34 [.dat (encA m),.dat (encG g),vL (fit.map encR),.dat [.sl (ns.map encI),.sl (es.map encI)]] (.val (vI (((rnOf m fit g ns es).runs n 0 0:Nat):Int))):=by
  have hC:=zmr hok hR _ 0 0 [] (Nat.lt_succ_self _) (by decide) (by omega) (Nat.zero_le _) (fun p hp=>by cases hp)
  generalize (rnOf m fit g ns es).runs n 0 0=r at hC ⊢
  refine CallsN.toV (R:=fun y σ1=>∃ _:Unit,y=vI (r:Int)∧σ1=[]∧True) ?_ rfl fun y σ1 ⟨_,h,_⟩=>h
  unfold encA encG
  unfold runS at hC
  (refine zcX (Ty:=Ty) zad Tryz.func34 rfl rfl rfl (by rfl) fun w0 S0 hp=>?_;refine enA ?_)
  iterate 16 (first|(refine isRL ?_;first|refine uMkM ?_|refine uBdC ?_|refine uBxG ?_)|refine nx ?_)
  refine uRn 14 1001 (zaH (hp 1001 rfl)) ?_
  refine uRn 16 1000 (zaH (hp 1000 rfl)) ?_
  repeat' (first|refine uNx hC (fun e2 _=>?_)|refine nx ?_)
  exact zkw (by rfl) rfl ghasA ⟨(),rfl,rfl,trivial⟩
end Go.Proofs.YtiplihojmfbjkaaGreat
namespace Go.Proofs.YtiplihojmfbjkaaGreat
open Go.RowKit
theorem zo5 (g:Gr) (p:Pt) (src:Int) (steps:List Int) (hN:∀ n∈g.nodes,n.props.length≤1048576) (hE:∀ n∈g.edges,n.props.length≤1048576) (hvb:(varsP p).length≤1000000) :
    CallsV Tryz.prog 7 [.dat (encG g),.dat (encP p),vI src,vL (steps.map encI)] (.val (vB true)):=by
  have hS:=zlT
  have hln:(g.nodes.map encNd).length=g.nodes.length:=List.length_map _
  have hle:(g.edges.map encEd).length=g.edges.length:=List.length_map _
  by_cases hsm:SmallP g p
  rotate_left
  · have hM:=zmF hN hE hvb hsm
    unfold encG at hM ⊢
    (refine zaa (Ty:=Ty) zad Tryz.func7 rfl rfl rfl fun w0 S0=>?_;refine enA ?_)
    repeat' (first|(refine isCl ?_;first|refine uC (hS) ?_|refine uC (hM) ?_)|(refine imCl ?_;first|refine mC (hS) ?_|refine mC (hM) ?_)|refine nx ?_|(refine nx2 ?_ ?_<;>intro hb))
    exact zab (by rfl) rfl
  have hM:=zla hN hE hvb hsm
  obtain ⟨hr,hs⟩:=zfO hsm.check
  have hen:=zoo hsm.check
  dsimp only at hr hs hen
  have hNo:=zmY p hr (by omega)
  have hsh:=zdq p hr
  have hnn:=zdm p hr
  have hB:=(zjD (normal p) hsh (by omega)).toV
  have hok:=machOk hsh (by omega)
  have hels:=zi7 hsh
  have hel1:=zl5 (normal p)
  have hT:=zjH g (normal p) (by have:=hsm.n8;omega) (by have:=hsm.e10;omega) (by omega)
  have hP:=zmC g src steps hsm.right hsm.n0 hsm.n8 hsm.e10
  have hst2:(buildM (normal p)).states=2+stP (normal p):=(zgC (normal p) 0 1 ⟨[],[],2⟩ hsh).st
  have h2n:2≤(buildM (normal p)).states.toNat:=by omega
  by_cases h0:tabE g (elems (normal p))=0
  rotate_left
  · have htr:tabR g (elems (normal p))=([],tabE g (elems (normal p))):=by unfold tabR;rw [if_neg h0]
    rw [htr] at hT
    dsimp only at hT
    unfold encG at hM hT ⊢
    (refine zaa (Ty:=Ty) zad Tryz.func7 rfl rfl rfl fun w0 S0=>?_;refine enA ?_)
    repeat' (first|(refine isCl ?_;first|refine uC (hS) ?_|refine uC (hM) ?_|refine uC (hNo) ?_|refine uC (hT) ?_)|(refine imCl ?_;first|refine mC (hS) ?_|refine mC (hM) ?_|refine mC (hNo) ?_|refine mC (hT) ?_)|refine nx ?_|(refine nx2 ?_ ?_<;>intro hb))
    exact zab (by rfl) rfl
  have h1:tabE g (elems p)=0:=zne (fun x hx=>(zfT p hr x).2 hx) h0
  have htr:tabR g (elems (normal p))=(tabF g (elems (normal p)),0):=by unfold tabR;rw [if_pos h0]
  rw [htr] at hT
  dsimp only at hT
  rw [← hels] at hT
  have hCnt:=fun (ns es:List Int) (h:PathOk g ns es) (h5:es.length≤5)=>zoy h (by omega) (by have:=hsm.n8;omega) (by have:=hsm.e10;omega) p hr hen (by omega)
  rw [h1] at hCnt
  simp only [if_true] at hCnt
  unfold encG at hM hT hP ⊢
  (refine zaa (Ty:=Ty) zad Tryz.func7 rfl rfl rfl fun w0 S0=>?_;refine enA ?_)
  repeat' (first|(refine isRL ?_;first|refine uNx hP (fun j hj=>?_)|(refine isCl ?_;first|refine uC (hS) ?_|refine uC (hM) ?_|refine uC (hNo) ?_|refine uC (hT) ?_))|(refine imCl ?_;first|refine mC (hS) ?_|refine mC (hM) ?_|refine mC (hNo) ?_|refine mC (hT) ?_)|refine nx ?_|(refine nx2 ?_ ?_<;>intro hb))
  obtain ⟨ns,es⟩:=j
  obtain ⟨hpath,hfive⟩:=hj
  dsimp only at hpath hfive ⊢
  have hrun:=zmb (m:=buildM (normal p)) (n:=(buildM (normal p)).states.toNat) hok hpath (by omega)
  obtain ⟨rk,hrk⟩:=znQ hr hen hrun
  have hV1:=zpk hrun h2n hrk
  have hcnt:=zm0 hr hen (n:=(buildM (normal p)).states.toNat) (by omega) hrk
  have hsets:=hrk.sets_runs h2n fun i v _ h=>zoE _ _ g ns es i v h
  have hall:(rnOf (buildM (normal p)) (tabF g (buildM (normal p)).elems) g ns es).runs (buildM (normal p)).states.toNat 0 0=capN ((rnOf (buildM (normal p)) (tabF g (buildM (normal p)).elems) g ns es).all (buildM (normal p)).states.toNat 0 0):=Rn.runs_all _ _ _ _
  have hCn:=hCnt ns es hpath hfive
  rw [hcnt] at hV1
  rw [hcnt] at hall
  generalize cntP g ns es p=cnt at hV1 hCn hall
  have hst:=hok.st
  generalize hG:buildM (normal p)=m at hB hok h2n hrun hrk hV1 hsets hall hst ⊢
  generalize hn:m.states.toNat=n at hok h2n hrun hrk hV1 hsets hall hst
  generalize hFit:tabF g m.elems=fit at hrun hrk hV1 hsets hall ⊢
  have hRL:(rnOf m fit g ns es).L=es.length:=rfl
  have hlN:(ns.map encI).length=ns.length:=List.length_map _
  have hlE:(es.map encI).length=es.length:=List.length_map _
  have hpl:=hpath.len
  obtain ⟨x0,hx0⟩:∃ x,ns[0]?=some x:=⟨_,List.getElem?_eq_getElem (by omega)⟩
  have hC0:=(zjN m n fit [true] x0 hok (hrun.nodes x0 (List.mem_of_getElem? hx0))).flat
  have e0:closeB m.moves (staysB m fit x0) (hasB [true]) n=(rnOf m fit g ns es).sets n 0:=by
    show _=closeB m.moves (fun v=>staysB m fit (ns[0]?.getD 0) v) (hasB [true]) n
    rw [hx0];rfl
  rw [e0] at hC0
  have hB1:[true].map encB=[encB true]:=rfl
  rw [hB1] at hC0
  unfold encG at hV1 hCn
  unfold encA at hV1 hB hC0
  repeat' (first|(refine isCl ?_;first|refine uC (hB) ?_|refine uC (hV1) ?_|refine uC (hCn) ?_|refine uC (hC0) ?_)|(refine imCl ?_;first|refine mC (hB) ?_|refine mC (hV1) ?_|refine mC (hCn) ?_|refine mC (hC0) ?_)|refine nx ?_|(refine nx2 ?_ ?_<;>intro hb))
  refine zay (α:=Nat) (fun i=>[(4,.one (.po 4 0)),(9,vB true),(11,vL (fit.map encR)),(13,.one (.po 13 0)),(14,.one (.po 14 0)),(15,vI (cnt:Int)),(16,vI (cnt:Int)),(17,vI 0),(18,vL (((rnOf m fit g ns es).sets n i).map encB)),(19,vI i)])
    (fun _=>[(4,.box 25 [.sl (g.nodes.map encNd),.sl (g.edges.map encEd)]),(13,.box 60 [.sl (ns.map encI),.sl (es.map encI)]),(14,.box 47 [.sl (m.elems.map encP),.sl (m.moves.map encMv),.v (.int .i64 m.states)])])
    (fun i=>i≤es.length) (fun i=>es.length - i) 0 (Nat.zero_le _) subA subA ?_
  intro i hi
  have hsl:(((rnOf m fit g ns es).sets n i).map encB).length=n:=by rw [List.length_map,Rn.sets_len]
  by_cases hlt:i < es.length
  · obtain ⟨e,he⟩:∃ e,es[i]?=some e:=⟨_,List.getElem?_eq_getElem hlt⟩
    obtain ⟨x,hx⟩:∃ x,ns[i]?=some x:=⟨_,List.getElem?_eq_getElem (by omega)⟩
    obtain ⟨y,hy⟩:∃ y,ns[i+1]?=some y:=⟨_,List.getElem?_eq_getElem (by omega)⟩
    have hyi:(ns.map encI)[((i:Int)+1).toNat]?=some (encI y):=by rw [show ((i:Int)+1).toNat=i+1 by omega,List.getElem?_map,hy];rfl
    have hA:=zgE g e x y
    have hGo:=(go_v m n fit ((rnOf m fit g ns es).sets n i) e (alongF g e x y) y hok (hrun.edges e (List.mem_of_getElem? he)) (hrun.nodes y (List.mem_of_getElem? hy))).flat
    have e1:closeB m.moves (staysB m fit y) (hasB (goF m.moves (goesB m fit e (alongF g e x y)) (hasB ((rnOf m fit g ns es).sets n i)) n)) n=(rnOf m fit g ns es).sets n (i+1):=by
      show _=closeB m.moves (fun v=>staysB m fit (ns[i+1]?.getD 0) v) (hasB (goF m.moves (fun v=>goesB m fit (es[i]?.getD 0) (alongF g (es[i]?.getD 0) (ns[i]?.getD 0) (ns[i+1]?.getD 0)) v) (hasB ((rnOf m fit g ns es).sets n i)) n)) n
      rw [hx,hy,he];rfl
    rw [e1] at hGo
    unfold encA at hGo
    unfold encG at hA
    repeat' (first|(refine isCl ?_;first|refine uC (hA) ?_|refine uC (hGo) ?_)|(refine imCl ?_;first|refine mC (hA) ?_|refine mC (hGo) ?_)|refine nx ?_|(refine nx2 ?_ ?_<;>intro hb))
    exact ⟨i+1,by omega,by omega,subA,subA⟩
  · obtain rfl:i=es.length:=by omega
    rw [hRL] at hsets
    generalize (rnOf m fit g ns es).sets n es.length=s at hsl hsets ⊢
    have hsl2:s.length=n:=by rw [← hsl,List.length_map]
    have hcc:(cnt==cnt)=true:=beq_self_eq_true _
    have hci:((cnt:Int)==(cnt:Int))=true:=beq_self_eq_true _
    obtain ⟨b,hb⟩:∃ b,s[1]?=some b:=⟨_,List.getElem?_eq_getElem (by omega)⟩
    have hbi:(s.map encB)[(1:Int).toNat]?=some (encB b):=by rw [show (1:Int).toNat=1 from rfl,List.getElem?_map,hb];rfl
    rw [zcN hb] at hsets
    have hpos:b=true↔0 < cnt:=by rw [hsets,hall];unfold capN;omega
    cases b with
    | true =>
      have hp:=hpos.1 rfl
      repeat' (first|refine nx ?_|(refine nx2 ?_ ?_<;>intro hb))
      exact zab (by rfl) rfl
    | false =>
      have hp:¬ 0 < cnt:=fun h=>by have:=hpos.2 h;cases this
      repeat' (first|refine nx ?_|(refine nx2 ?_ ?_<;>intro hb))
      exact zab (by rfl) rfl
theorem zkt (g:Gr) (hg:bulkR (encG g)≤1048576) (p:Pt) (hp:bulkR (encP p)≤1048576) (src:Int) (steps:List Int) (_hs:bulkR [.sl (steps.map encI)]≤1048576) :
    CallsV Tryz.prog 7 [.dat (encG g),.dat (encP p),vI src,vL (steps.map encI)] (.val (vB true)) :=
  zo5 g p src steps (zg1 hg).1 (zg1 hg).2 (by have:=(znA hp).1;omega)
end Go.Proofs.YtiplihojmfbjkaaGreat
namespace Go.Proofs.YtiplihojmfbjkaaGreat
open Go.RowKit Go.ChangeShapes Go.WideShapes Go.Deep
theorem zm8 {n:Nat} {ds:List D} (h:Sh Tryz.prog n 55 ds):∃ l:List Int,ds=[.sl (l.map encI)]:=by
  obtain ⟨m,rows,rfl,rfl,_,hr⟩:=zcr Tryz.underlying55 h
  obtain ⟨l,rfl⟩:=zb1 encI (fun q=>Sh Tryz.prog m 3 q) (fun q hq=>let ⟨m,_,e⟩:=zcp Tryz.underlying3 hq;⟨m,e⟩) rows hr
  exact ⟨l,rfl⟩
def intsL:List TypeId:=[3,55]
theorem zj8:intsL.all (simpleT Tryz.prog intsL)=true:=by kernel_rfl
section
variable {H:Type} {enc:TypeId × Value→H} {w:World} {base b0:Nat} {spare:Nat→Bool} {held:Bool} {r:Reach} {ts:List TypeId} {ds:List (DataW H)}
theorem zmm {j:Nat} {v:Value} {d:DataW H} {p:List MemPlace} (hsz:(DataW.weightsEach Tryz.prog ts ds).all (· ≤ reachBytes)=true) (ht:ts[j]?=some 55) (hd:ds[j]?=some d)
    (hv:Value.okWide Tryz.prog w r b0 55 v) (h:DataW.Trod enc Tryz.prog w base spare held 55 v d p):∃ l:List Int,PV (SW_ w) w (vL (l.map encI)) v∧bulkR [.sl (l.map encI)]≤Rows.uptoBulk d:=by
  obtain ⟨a,n,c,e⟩:=okWide_slice Tryz.underlying55 hv
  obtain ⟨n,hf⟩:=h
  obtain ⟨x,h1,h2⟩:=zfZ intsL zj8 n _ _ _ rfl hf (List.all_eq_true.2 fun y hy=>List.all_eq_true.1 hsz y (DataW.weights_mem_each ht hd y hy))
  have h3:=zfR intsL zj8 n _ _ _ x rfl hf h1 h2
  obtain ⟨y,rfl⟩:=zm8 h2
  exact ⟨y,zoZ e h1,h3⟩
end
end Go.Proofs.YtiplihojmfbjkaaGreat
