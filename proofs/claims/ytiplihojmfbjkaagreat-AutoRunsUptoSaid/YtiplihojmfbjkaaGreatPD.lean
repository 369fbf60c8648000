/- Walks: derivations of a pattern over a path are counted. -/
import Derived.Test.YtiplihojmfbjkaaGreatPC
import Derived.Test.YtiplihojmfbjkaaGreatWI
import Derived.Test.YtiplihojmfbjkaaGreatWM
set_option maxRecDepth 100000
set_option maxHeartbeats 32000000
namespace Go.Proofs.YtiplihojmfbjkaaGreat
open Go.RowKit
def TabAt (g:Gr) (fit:List (List Bool)) (n:Nat) (p:Pt):Prop:=∀ (j:Nat) (q:Pt),(elems p)[j]?=some q→fit[n+j]?=some ((rowT g q).map (·.1))
theorem TabAt.kid {g:Gr} {fit:List (List Bool)} {n:Nat} {p k:Pt} {i:Nat} (h:TabAt g fit n p) (hk:p.kind≠1∧p.kind≠2) (hi:p.kids[i]?=some k):TabAt g fit (n+((p.kids.take i).flatMap elems).length) k:=fun j q hq=>by
  have hel:elems p=p.kids.flatMap elems:=by rw [za5,if_neg];unfold isElem;simp [hk.1,hk.2]
  have h1:=(List.getElem?_eq_some_iff.1 hi).1
  have h2:=(List.getElem?_eq_some_iff.1 hi).2
  have e:p.kids.flatMap elems=(p.kids.take i).flatMap elems++(elems k++(p.kids.drop (i+1)).flatMap elems):=by
    conv=>lhs;rw [← List.take_append_drop i p.kids,List.flatMap_append,List.drop_eq_getElem_cons h1,h2,List.flatMap_cons]
  rw [Nat.add_assoc]
  refine h _ q ?_
  rw [hel,e,List.getElem?_append_right (by omega),Nat.add_sub_cancel_left,List.getElem?_append_left (List.getElem?_eq_some_iff.1 hq).1,hq]
def placeF (g:Gr) (ns es:List Int) (p:Pt) (i:Nat):Bool :=
  if p.kind=1 then (((rowT g p).map (·.1))[(ns[i]?.getD 0).toNat]?).getD false
  else (((rowT g p).map (·.1))[(es[i]?.getD 0).toNat]?).getD false&&((IntKind.i64.wrap ((BitVec.ofInt IntKind.i64.bits p.dir &&& BitVec.ofInt IntKind.i64.bits (alongF g (es[i]?.getD 0) (ns[i]?.getD 0) (ns[i+1]?.getD 0))).toNat:Nat)) != 0)
theorem zfI (g:Gr) (p:Pt):(rowT g p).length=if p.kind=2 then g.edges.length else g.nodes.length:=by
  unfold rowT lpsG;split<;>simp
theorem znF {u v:Vec} {n k:Nat} {z c:Int} (hz:z.toNat=k) (hk:k < n) (hc:c=((capN (v k):Nat):Int)) (hne:∀ j,j < n→j≠k→capN (u j)=capN (v j)):((rowV u n).map encI).take (0+z.toNat)++[[.v (.int .i64 c)]]++((rowV u n).map encI).drop (0+z.toNat+1)=(rowV v n).map encI:=by
  rw [hz,zkU _ (by rw [zaB];exact hk),hc,zfQ hk rfl hne]
theorem zoD {g:Gr} {fit:List (List Bool)} {ns es:List Int} (hP:PathOk g ns es) (hes:es.length≤1000):∀ (p:Pt) (n:Nat) (v:Vec),rightP p=true→TabAt g fit n p→n+(elems p).length≤1000000→sizeN p≤1000→
    CallsV Tryz.prog 82 [.dat (encDv g ns es fit),.dat (encPa p n),vL ((rowV v (es.length+1)).map encI)] (.own 3 1 ((rowV (fwdT es.length (placeF g ns es) p v) (es.length+1)).map encI)):=Pt.ind fun p ih n v hr hT hne hsz=>by
  have hln:(ns.map encI).length=es.length+1:=by rw [List.length_map,hP.len]
  have hle:(es.map encI).length=es.length:=List.length_map _
  have hlv:((rowV v (es.length+1)).map encI).length=es.length+1:=by rw [List.length_map,zaB]
  have hlv2:=zaB v (es.length+1)
  have hPn:=hP.len
  generalize hL:es.length=L at *
  rcases za7 hr with hk|hk|hk|hk|hk
  · have hel:elems p=[p]:=by rw [za5,if_pos];unfold isElem;simp [hk]
    have hrow:fit[n]?=some ((rowT g p).map (·.1)):=hT 0 p (by rw [hel];rfl)
    rw [zih hk]
    unfold encDv
    (refine zbj (Ty:=Ty) zad Tryz.func82 rfl rfl rfl fun w0 S0 _ hp=>?_;refine enA ?_)
    iterate 12 (first|(refine isRL ?_;first|refine uBxA ?_|refine uLwA ?_|refine uLa ?_|refine uMk (L+1) ?_)|refine nx ?_|(refine nx2 ?_ ?_<;>intro hb))
    rw [zcB]
    refine uRn 20 1001 (zaH (hp 1001)) ?_
    repeat' (first|refine uLa ?_|refine nx ?_|(refine nx2 ?_ ?_<;>intro hb))
    refine zay (α:=Nat) (fun i=>[(3,.one (.po 3 0)),(4,.one (.po 4 0)),(7,.one (.win 1001 0 (L+1) (L+1) 1)),(27,vL ((rowV v (L+1)).map encI)),(28,vI (((rowV v (L+1)).map encI).length:Int)),(29,vI i)])
      (fun i=>[(3,.box 149 [.sl (g.nodes.map encNd),.sl (g.edges.map encEd),.sl (ns.map encI),.sl (es.map encI),.sl (fit.map encR)]),(4,.box 152 (encPa p n)),(1001,.arr 3 1 ((rowV (fun j=>if j < i∧placeF g ns es p j=true then v j else 0) (L+1)).map encI))])
      (fun i=>i≤L+1) (fun i=>L+1 - i) 0 (Nat.zero_le _) subA (by simp only [Nat.not_lt_zero,false_and,if_false];exact subA) ?_
    intro i hi
    by_cases hlt:i < L+1
    · obtain ⟨x,hx⟩:∃ x,ns[i]?=some x:=⟨_,List.getElem?_eq_getElem (by omega)⟩
      have hxn:=hP.nodes x (List.mem_of_getElem? hx)
      have hrl:((rowT g p).map (·.1)).length=g.nodes.length:=by rw [List.length_map,zfI,if_neg (by omega)]
      obtain ⟨b,hb⟩:∃ b,((rowT g p).map (·.1))[x.toNat]?=some b:=⟨_,List.getElem?_eq_getElem (by omega)⟩
      have hF:placeF g ns es p i=b:=by unfold placeF;rw [if_pos hk,hx,Option.getD_some,hb];rfl
      have hS:=zpD g ns es fit p n i hk hrow hx hxn.1 hb (by omega)
      unfold encDv at hS
      have hvi:((rowV v (L+1)).map encI)[i]?=some (encI ((capN (v i):Nat):Int)):=by rw [List.getElem?_map,zdp hlt];rfl
      have hcl:=zeI (v i)
      obtain ⟨A,hA⟩:∃ A:Vec,A=fun j=>if j < i∧placeF g ns es p j=true then v j else 0:=⟨_,rfl⟩
      obtain ⟨B,hB⟩:∃ B:Vec,B=fun j=>if j < i+1∧placeF g ns es p j=true then v j else 0:=⟨_,rfl⟩
      have hne:∀ j,j≠i→A j=B j:=fun j hj=>by
        rw [hA,hB]
        dsimp only
        by_cases h:j < i∧placeF g ns es p j=true
        · rw [if_pos h,if_pos ⟨by omega,h.2⟩]
        · rw [if_neg h,if_neg (fun q=>h ⟨by omega,q.2⟩)]
      rw [← hA]
      have hAi:A i=0:=by rw [hA];exact if_neg (fun q=>by omega)
      cases b with
      | false =>
        have hBi:B i=0:=by rw [hB];exact if_neg (fun q=>by rw [hF] at q;cases q.2)
        have hAB:A=B:=funext fun j=>by
          by_cases e:j=i
          · rw [e,hAi,hBi]
          · exact hne j e
        repeat' (first|(refine isRL ?_;first|refine uLwA ?_|refine uC (hS) ?_)|refine nx ?_|(refine nx2 ?_ ?_<;>intro hb))
        exact ⟨i+1,by omega,by omega,subA,(by simp only [← hB,← hAB];exact subA)⟩
      | true =>
        have hBi:B i=v i:=by rw [hB];exact if_pos ⟨by omega,hF⟩
        have hu:=znF (u:=A) (v:=B) (n:=L+1) (z:=(i:Int)) (c:=((capN (v i):Nat):Int)) (Int.toNat_natCast i) hlt (by rw [hBi]) fun j _ hj=>by rw [hne j hj]
        by_cases h0:capN (v i)=0
        · have hAB:rowV A (L+1)=rowV B (L+1):=zbP fun j _=>by
            by_cases e:j=i
            · rw [e,hAi,hBi,h0];rfl
            · rw [hne j e]
          repeat' (first|(refine isRL ?_;first|refine uLwA ?_|refine uC (hS) ?_)|refine nx ?_|(refine nx2 ?_ ?_<;>intro hb))
          exact ⟨i+1,by omega,by omega,subA,(by simp only [← hB,← hAB];exact subA)⟩
        · repeat' (first|(refine isRL ?_;first|refine uLwA ?_|refine uWix ?_|refine uPev _ ?_ (hrows:=hu) (hm:=by rw [List.length_map,zaB,Int.toNat_natCast,Nat.zero_add];exact hlt)|refine uC (hS) ?_)|refine nx ?_|(refine nx2 ?_ ?_<;>intro hb))
          exact ⟨i+1,by omega,by omega,subA,(by simp only [← hB];exact subA)⟩
    · obtain rfl:i=L+1:=by omega
      have hfin:rowV (fun j=>if j < L+1∧placeF g ns es p j=true then v j else 0) (L+1)=rowV (fun j=>if placeF g ns es p j=true then v j else 0) (L+1):=zbP fun j hj=>by
        by_cases h:placeF g ns es p j=true
        · rw [if_pos ⟨hj,h⟩,if_pos h]
        · rw [if_neg (fun q=>h q.2),if_neg h]
      rw [hfin]
      iterate 8 (first|refine nx ?_|(refine nx2 ?_ ?_<;>intro hb))
      refine uArrTok (n:=L+1) (rows:=(rowV (fun j=>if placeF g ns es p j=true then v j else 0) (L+1)).map encI) 7 1001 ?_ (by rw [List.length_map,zaB]) (by rw [List.length_map,zaB];omega)
      repeat' (first|refine nx ?_|(refine nx2 ?_ ?_<;>intro hb))
      exact zbZ (by rfl) (by rfl) rfl
  · have hel:elems p=[p]:=by rw [za5,if_pos];unfold isElem;simp [hk]
    have hrow:fit[n]?=some ((rowT g p).map (·.1)):=hT 0 p (by rw [hel];rfl)
    rw [ziR hk]
    unfold encDv
    (refine zbj (Ty:=Ty) zad Tryz.func82 rfl rfl rfl fun w0 S0 _ hp=>?_;refine enA ?_)
    iterate 12 (first|(refine isRL ?_;first|refine uBxA ?_|refine uLwA ?_|refine uLa ?_|refine uMk (L+1) ?_)|refine nx ?_|(refine nx2 ?_ ?_<;>intro hb))
    rw [zcB]
    refine uRn 20 1001 (zaH (hp 1001)) ?_
    repeat' (first|refine uLa ?_|refine nx ?_|(refine nx2 ?_ ?_<;>intro hb))
    have hinit:rowV (fun j=>if 0 < j∧j≤0∧placeF g ns es p (j - 1)=true then v (j - 1) else 0) (L+1)=rowV zeroV0 (L+1):=zbP fun j _=>by rw [if_neg (fun q=>by omega)];rfl
    refine zay (α:=Nat) (fun i=>[(3,.one (.po 3 0)),(4,.one (.po 4 0)),(7,.one (.win 1001 0 (L+1) (L+1) 1)),(27,vL ((rowV v (L+1)).map encI)),(28,vI (((rowV v (L+1)).map encI).length:Int)),(29,vI i)])
      (fun i=>[(3,.box 149 [.sl (g.nodes.map encNd),.sl (g.edges.map encEd),.sl (ns.map encI),.sl (es.map encI),.sl (fit.map encR)]),(4,.box 152 (encPa p n)),(1001,.arr 3 1 ((rowV (fun j=>if 0 < j∧j≤i∧placeF g ns es p (j - 1)=true then v (j - 1) else 0) (L+1)).map encI))])
      (fun i=>i≤L+1) (fun i=>L+1 - i) 0 (Nat.zero_le _) subA (by simp only [hinit];exact subA) ?_
    intro i hi
    by_cases hlt:i < L+1
    · have hvi:((rowV v (L+1)).map encI)[i]?=some (encI ((capN (v i):Nat):Int)):=by rw [List.getElem?_map,zdp hlt];rfl
      have hcl:=zeI (v i)
      obtain ⟨A,hA⟩:∃ A:Vec,A=fun j=>if 0 < j∧j≤i∧placeF g ns es p (j - 1)=true then v (j - 1) else 0:=⟨_,rfl⟩
      obtain ⟨B,hB⟩:∃ B:Vec,B=fun j=>if 0 < j∧j≤i+1∧placeF g ns es p (j - 1)=true then v (j - 1) else 0:=⟨_,rfl⟩
      have hne:∀ j,j≠i+1→A j=B j:=fun j hj=>by
        rw [hA,hB]
        dsimp only
        by_cases h:0 < j∧j≤i∧placeF g ns es p (j - 1)=true
        · rw [if_pos h,if_pos ⟨h.1,by omega,h.2.2⟩]
        · rw [if_neg h,if_neg (fun q=>h ⟨q.1,by omega,q.2.2⟩)]
      rw [← hA]
      by_cases hiL:i < L
      · obtain ⟨x,hx⟩:∃ x,ns[i]?=some x:=⟨_,List.getElem?_eq_getElem (by omega)⟩
        obtain ⟨y,hy⟩:∃ y,ns[i+1]?=some y:=⟨_,List.getElem?_eq_getElem (by omega)⟩
        obtain ⟨e,he⟩:∃ e,es[i]?=some e:=⟨_,List.getElem?_eq_getElem (by omega)⟩
        have hen:=hP.edges e (List.mem_of_getElem? he)
        have hrl:((rowT g p).map (·.1)).length=g.edges.length:=by rw [List.length_map,zfI,if_pos hk]
        obtain ⟨b,hb⟩:∃ b,((rowT g p).map (·.1))[e.toNat]?=some b:=⟨_,List.getElem?_eq_getElem (by omega)⟩
        have hS:=zpM g ns es fit p n i (by omega) hrow he hx hy hen.1 hb (by omega)
        have hF:placeF g ns es p i=(b&&((IntKind.i64.wrap ((BitVec.ofInt IntKind.i64.bits p.dir &&& BitVec.ofInt IntKind.i64.bits (alongF g e x y)).toNat:Nat)) != 0)):=by
          unfold placeF
          rw [if_neg (by omega),he,hx,hy,Option.getD_some,Option.getD_some,Option.getD_some,hb];rfl
        rw [← hF] at hS
        unfold encDv at hS
        have hAi:A (i+1)=0:=by rw [hA];exact if_neg (fun q=>by omega)
        cases hf:placeF g ns es p i with
        | false =>
          rw [hf] at hS
          have hBi:B (i+1)=0:=by rw [hB];exact if_neg (fun q=>by rw [Nat.add_sub_cancel,hf] at q;cases q.2.2)
          have hAB:A=B:=funext fun j=>by
            by_cases e:j=i+1
            · rw [e,hAi,hBi]
            · exact hne j e
          repeat' (first|(refine isRL ?_;first|refine uLwA ?_|refine uC (hS) ?_)|refine nx ?_|(refine nx2 ?_ ?_<;>intro hb))
          exact ⟨i+1,by omega,by omega,subA,(by simp only [← hB,← hAB];exact subA)⟩
        | true =>
          rw [hf] at hS
          have hBi:B (i+1)=v i:=by rw [hB];exact if_pos ⟨by omega,Nat.le_refl _,by rw [Nat.add_sub_cancel];exact hf⟩
          have hu:=znF (u:=A) (v:=B) (n:=L+1) (z:=(i:Int)+1) (c:=((capN (v i):Nat):Int)) (k:=i+1) (by omega) (by omega) (by rw [hBi]) fun j _ hj=>by rw [hne j hj]
          by_cases h0:capN (v i)=0
          · have hAB:rowV A (L+1)=rowV B (L+1):=zbP fun j _=>by
              by_cases e:j=i+1
              · rw [e,hAi,hBi,h0];rfl
              · rw [hne j e]
            repeat' (first|(refine isRL ?_;first|refine uLwA ?_|refine uC (hS) ?_)|refine nx ?_|(refine nx2 ?_ ?_<;>intro hb))
            exact ⟨i+1,by omega,by omega,subA,(by simp only [← hB,← hAB];exact subA)⟩
          · repeat' (first|(refine isRL ?_;first|refine uLwA ?_|refine uWix ?_|refine uPev _ ?_ (hrows:=hu) (hm:=by rw [List.length_map,zaB];omega)|refine uC (hS) ?_)|refine nx ?_|(refine nx2 ?_ ?_<;>intro hb))
            exact ⟨i+1,by omega,by omega,subA,(by simp only [← hB];exact subA)⟩
      · have hS:=zpg g ns es fit p n i (by omega) (by omega)
        unfold encDv at hS
        have hAB:rowV A (L+1)=rowV B (L+1):=zbP fun j hj=>by rw [hne j (by omega)]
        repeat' (first|(refine isRL ?_;first|refine uLwA ?_|refine uC (hS) ?_)|refine nx ?_|(refine nx2 ?_ ?_<;>intro hb))
        exact ⟨i+1,by omega,by omega,subA,(by simp only [← hB,← hAB];exact subA)⟩
    · obtain rfl:i=L+1:=by omega
      have hfin:rowV (fun j=>if 0 < j∧j≤L+1∧placeF g ns es p (j - 1)=true then v (j - 1) else 0) (L+1)=rowV (fun i=>if 0 < i∧i≤L∧placeF g ns es p (i - 1)=true then v (i - 1) else 0) (L+1):=zbP fun j hj=>by
        by_cases h:0 < j∧j≤L∧placeF g ns es p (j - 1)=true
        · rw [if_pos h,if_pos ⟨h.1,by omega,h.2.2⟩]
        · rw [if_neg h,if_neg (fun q=>h ⟨q.1,by omega,q.2.2⟩)]
      rw [hfin]
      iterate 8 (first|refine nx ?_|(refine nx2 ?_ ?_<;>intro hb))
      refine uArrTok (n:=L+1) (rows:=(rowV (fun i=>if 0 < i∧i≤L∧placeF g ns es p (i - 1)=true then v (i - 1) else 0) (L+1)).map encI) 7 1001 ?_ (by rw [List.length_map,zaB]) (by rw [List.length_map,zaB];omega)
      repeat' (first|refine nx ?_|(refine nx2 ?_ ?_<;>intro hb))
      exact zbZ (by rfl) (by rfl) rfl
  all_goals
    have hrk:=zaF hr
    have hkl:=zjB hr
    have hsk:=fun (k:Pt) (hkm:k∈p.kids)=>zei hr hkm
    have hel:elems p=p.kids.flatMap elems:=by rw [za5,if_neg];unfold isElem;simp [hk]
    have hk12:p.kind≠1∧p.kind≠2:=by omega
    have hKi:=zm6 p n hne hk12 (by omega)
    have hfe:∀ (i:Nat) (q:Pt),p.kids[i]?=some q→n+((p.kids.take i).flatMap elems).length+(elems q).length≤1000000:=fun i q hq=>by
      have h1:=(List.getElem?_eq_some_iff.1 hq).1
      have h2:=(List.getElem?_eq_some_iff.1 hq).2
      have e:p.kids.flatMap elems=(p.kids.take i).flatMap elems++(elems q++(p.kids.drop (i+1)).flatMap elems):=by
        conv=>lhs;rw [← List.take_append_drop i p.kids,List.flatMap_append,List.drop_eq_getElem_cons h1,h2,List.flatMap_cons]
      have:(p.kids.flatMap elems).length=((p.kids.take i).flatMap elems).length+((elems q).length+((p.kids.drop (i+1)).flatMap elems).length):=by rw [e,List.length_append,List.length_append]
      rw [hel] at hne
      omega
    have hkk:∀ (i:Nat) (q:Pt),p.kids[i]?=some q→(kidsA p.kids n)[i]?=some (q,n+((p.kids.take i).flatMap elems).length):=fun i q hq=>by
      have h1:=(List.getElem?_eq_some_iff.1 hq).1
      conv=>lhs;rw [← List.take_append_drop (i+1) p.kids,zeM,zf0 hq]
      rw [List.append_assoc,List.getElem?_append_right (by rw [zcy,List.length_take];omega),zcy,List.length_take,show i - min i p.kids.length=0 by omega]
      rfl
    have hkal:((kidsA p.kids n).map encPan).length=p.kids.length:=by rw [List.length_map,zcy]
    have hkal2:(kidsA p.kids n).length=p.kids.length:=zcy _ _
    have hC:=fun (i:Nat) (q:Pt) (hq:p.kids[i]?=some q) (u:Vec)=>ih q (List.mem_of_getElem? hq) (n+((p.kids.take i).flatMap elems).length) u (hrk q (List.mem_of_getElem? hq)) (hT.kid hk12 hq) (hfe i q hq) (by have:=hsk q (List.mem_of_getElem? hq);omega)
    unfold encDv at hC ⊢
  · rw [zj1 hk]
    have hadd:=zkx zeroV0 v (L+1) (by omega)
    rw [zeR] at hadd
    (refine zbj (Ty:=Ty) zad Tryz.func82 rfl rfl rfl fun w0 S0 _ hp=>?_;refine enA ?_)
    iterate 12 (first|(refine isRL ?_;first|refine uBxA ?_|refine uLwA ?_|refine uLa ?_|refine uMk (L+1) ?_)|refine nx ?_|(refine nx2 ?_ ?_<;>intro hb))
    rw [zcB]
    refine uRn 20 1001 (zaH (hp 1001)) ?_
    iterate 40 (first|(refine isRL ?_;first|refine uLwA ?_|refine uLa ?_|(refine isCl ?_;first|refine uM (hadd) ?_|refine uC (hKi) ?_))|refine nx ?_|(refine nx2 ?_ ?_<;>intro hb))
    refine uArrTok (n:=L+1) (rows:=(rowV v (L+1)).map encI) 7 1001 ?_ (by rw [List.length_map,zaB]) (by rw [List.length_map,zaB];omega)
    repeat' (first|(refine isRL ?_;first|refine uLwA ?_|refine uC (hKi) ?_)|refine nx ?_|(refine nx2 ?_ ?_<;>intro hb))
    refine zay (α:=Nat) (fun i=>[(3,.one (.po 3 0)),(7,.one (.own 1001 ((rowV ((p.kids.take i).foldl (fun v k=>fwdT L (placeF g ns es) k v) v) (L+1)).map encI))),(57,vL ((kidsA p.kids n).map encPan)),(58,vI (((kidsA p.kids n).map encPan).length:Int)),(59,vI i)])
      (fun i=>[(3,.box 149 [.sl (g.nodes.map encNd),.sl (g.edges.map encEd),.sl (ns.map encI),.sl (es.map encI),.sl (fit.map encR)]),(1001,.tok 3 1)])
      (fun i=>i≤p.kids.length) (fun i=>p.kids.length - i) 0 (Nat.zero_le _) subA subA ?_
    intro i hi
    by_cases hlt:i < p.kids.length
    · obtain ⟨q,hq⟩:∃ q,p.kids[i]?=some q:=⟨_,List.getElem?_eq_getElem hlt⟩
      have hqa:((kidsA p.kids n).map encPan)[((i:Int)).toNat]?=some (encPa q ((n+((p.kids.take i).flatMap elems).length:Nat):Int)):=by rw [Int.toNat_natCast,List.getElem?_map,hkk i q hq];rfl
      have hnx:(p.kids.take (i+1)).foldl (fun v k=>fwdT L (placeF g ns es) k v) v=fwdT L (placeF g ns es) q ((p.kids.take i).foldl (fun v k=>fwdT L (placeF g ns es) k v) v):=zbe hq
      have hCq:=hC i q hq ((p.kids.take i).foldl (fun v k=>fwdT L (placeF g ns es) k v) v)
      iterate 22 (first|(refine isRL ?_;first|refine uSwA ?_|refine uLwA ?_|refine uXA ?_ hqa|refine uLqA ?_|refine uCO (hCq) ?_)|refine nx ?_|(refine nx2 ?_ ?_<;>intro hb))
      refine uRn 66 1001 (zaH (hp 1001)) ?_
      repeat' (first|refine nx ?_|(refine nx2 ?_ ?_<;>intro hb))
      exact ⟨i+1,by omega,by omega,(by simp only [hnx];exact subA),subA⟩
    · obtain rfl:i=p.kids.length:=by omega
      rw [List.take_length]
      repeat' (first|refine nx ?_|(refine nx2 ?_ ?_<;>intro hb))
      exact zbZ (by rfl) (by rfl) rfl
  · rw [zj0 hk]
    (refine zbj (Ty:=Ty) zad Tryz.func82 rfl rfl rfl fun w0 S0 _ hp=>?_;refine enA ?_)
    iterate 12 (first|(refine isRL ?_;first|refine uBxA ?_|refine uLwA ?_|refine uLa ?_|refine uMk (L+1) ?_)|refine nx ?_|(refine nx2 ?_ ?_<;>intro hb))
    rw [zcB]
    refine uRn 20 1001 (zaH (hp 1001)) ?_
    repeat' (first|(refine isRL ?_;first|refine uLwA ?_|refine uLa ?_|refine uC (hKi) ?_)|refine nx ?_|(refine nx2 ?_ ?_<;>intro hb))
    refine zay (α:=Nat) (fun i=>[(2,vL ((rowV v (L+1)).map encI)),(3,.one (.po 3 0)),(7,.one (.win 1001 0 (L+1) (L+1) 1)),(71,vL ((kidsA p.kids n).map encPan)),(72,vI (((kidsA p.kids n).map encPan).length:Int)),(73,vI i)])
      (fun i=>[(3,.box 149 [.sl (g.nodes.map encNd),.sl (g.edges.map encEd),.sl (ns.map encI),.sl (es.map encI),.sl (fit.map encR)]),(1001,.arr 3 1 ((rowV (sumV ((p.kids.take i).map fun k=>fwdT L (placeF g ns es) k v)) (L+1)).map encI))])
      (fun i=>i≤p.kids.length) (fun i=>p.kids.length - i) 0 (Nat.zero_le _) subA subA ?_
    intro i hi
    by_cases hlt:i < p.kids.length
    · obtain ⟨q,hq⟩:∃ q,p.kids[i]?=some q:=⟨_,List.getElem?_eq_getElem hlt⟩
      have hqa:((kidsA p.kids n).map encPan)[((i:Int)).toNat]?=some (encPa q ((n+((p.kids.take i).flatMap elems).length:Nat):Int)):=by rw [Int.toNat_natCast,List.getElem?_map,hkk i q hq];rfl
      have hnx:sumV ((p.kids.take (i+1)).map fun k=>fwdT L (placeF g ns es) k v)=addV (sumV ((p.kids.take i).map fun k=>fwdT L (placeF g ns es) k v)) (fwdT L (placeF g ns es) q v):=by
        rw [zcw hq,zfG];rfl
      have hCq:=(hC i q hq v).flat
      have hadd:=zkx (sumV ((p.kids.take i).map fun k=>fwdT L (placeF g ns es) k v)) (fwdT L (placeF g ns es) q v) (L+1) (by omega)
      rw [← hnx] at hadd
      repeat' (first|(refine isRL ?_;first|refine uSwA ?_|refine uLwA ?_|refine uXA ?_ hqa|refine uLqA ?_|(refine isCl ?_;first|refine uC (hCq) ?_|refine uM (hadd) ?_))|refine nx ?_|(refine nx2 ?_ ?_<;>intro hb))
      exact ⟨i+1,by omega,by omega,subA,subA⟩
    · obtain rfl:i=p.kids.length:=by omega
      rw [List.take_length]
      iterate 8 (first|refine nx ?_|(refine nx2 ?_ ?_<;>intro hb))
      refine uArrTok (n:=L+1) (rows:=(rowV (sumV (p.kids.map fun k=>fwdT L (placeF g ns es) k v)) (L+1)).map encI) 7 1001 ?_ (by rw [List.length_map,zaB]) (by rw [List.length_map,zaB];omega)
      repeat' (first|refine nx ?_|(refine nx2 ?_ ?_<;>intro hb))
      exact zbZ (by rfl) (by rfl) rfl
  · obtain ⟨⟨k,hkk1,hkr⟩,hm0,hm20,hmx⟩:=zaI hr hk
    have hq0:p.kids[0]?=some k:=by rw [hkk1];rfl
    have hqa:((kidsA p.kids n).map encPan)[(0:Int).toNat]?=some (encPa k ((n+((p.kids.take 0).flatMap elems).length:Nat):Int)):=by
      rw [show (0:Int).toNat=0 from rfl,List.getElem?_map,hkk 0 k hq0];rfl
    have hC0:=fun u=>(hC 0 k hq0 u).flat
    rw [zhI hk hkk1]
    generalize fwdT L (placeF g ns es) k=f at hC0 ⊢
    obtain ⟨M,hM⟩:∃ M:Nat,p.min.toNat=M:=⟨_,rfl⟩
    have hMi:p.min=(M:Int):=by omega
    rw [hM]
    obtain ⟨P,hP0⟩:∃ P:Nat→Vec, ∀ j,P j=if j≤M then zeroV0 else upV f M (j - M - 1) v:=⟨_,fun _=>rfl⟩
    have hPn:∀ j,M≤j→addV (P j) (powV f j v)=P (j+1):=fun j hj=>by
      rw [hP0,hP0]
      rw [if_neg (show ¬ j+1≤M by omega)]
      by_cases h:j≤M
      · obtain rfl:j=M:=by omega
        rw [if_pos h,zeR,show j+1 - j - 1=0 by omega];rfl
      · rw [if_neg h,show j+1 - M - 1=(j - M - 1)+1 by omega]
        show addV _ _=addV _ (powV f (M+(j - M - 1)+1) v)
        rw [show M+(j - M - 1)+1=j by omega]
    have hPs:∀ j,¬ M≤j→P j=P (j+1):=fun j hj=>by rw [hP0,hP0,if_pos (by omega),if_pos (by omega)]
    have hPend:∀ j,P (M+j+1)=upV f M j v:=fun j=>by rw [hP0,if_neg (by omega),show M+j+1 - M - 1=j by omega]
    (refine zbj (Ty:=Ty) zad Tryz.func82 rfl rfl rfl fun w0 S0 _ hp=>?_;refine enA ?_)
    iterate 12 (first|(refine isRL ?_;first|refine uBxA ?_|refine uLwA ?_|refine uLa ?_|refine uMk (L+1) ?_)|refine nx ?_|(refine nx2 ?_ ?_<;>intro hb))
    rw [zcB]
    refine uRn 20 1001 (zaH (hp 1001)) ?_
    repeat' (first|(refine isRL ?_;first|refine uLwA ?_|refine uLa ?_|refine uXA ?_ hqa|refine uLqA ?_|refine uSwA ?_|refine uC (hKi) ?_)|refine nx ?_|(refine nx2 ?_ ?_<;>intro hb))
    refine zay (α:=Nat) (fun j=>[(2,vL ((rowV (powV f j v) (L+1)).map encI)),(3,.one (.po 3 0)),(4,.one (.po 4 0)),(7,.one (.win 1001 0 (L+1) (L+1) 1)),(16,.one (.po 16 0)),(17,vI j)])
      (fun j=>[(3,.box 149 [.sl (g.nodes.map encNd),.sl (g.edges.map encEd),.sl (ns.map encI),.sl (es.map encI),.sl (fit.map encR)]),(4,.box 152 (encPa p n)),(16,.box 152 (encPa k ((n+((p.kids.take 0).flatMap elems).length:Nat):Int))),(1001,.arr 3 1 ((rowV (P j) (L+1)).map encI))])
      (fun j=>j≤L+M+1∧(p.max < 0∨(j:Int)≤p.max)) (fun j=>L+M+1 - j) 0 ⟨Nat.zero_le _,by omega⟩ subA (by simp only [hP0,Nat.zero_le,if_true];exact subA) ?_
    rintro j ⟨hj,hjx⟩
    have hlj:((rowV (powV f j v) (L+1)).map encI).length=L+1:=by rw [List.length_map,zaB]
    have hCj:=hC0 (powV f j v)
    have hadd:=zkx (P j) (powV f j v) (L+1) (by omega)
    by_cases hlt:j≤L+M
    · by_cases hjM:M≤j
      · rw [hPn j hjM] at hadd
        by_cases hjm:(j:Int)=p.max
        · have hfin:P (j+1)=upV f M (moreC L p) v:=by
            obtain ⟨d,rfl⟩:∃ d,j=M+d:=⟨j - M,by omega⟩
            rw [hPend]
            congr 1
            unfold moreC
            rw [if_neg (by omega)];omega
          rw [hfin] at hadd
          iterate 43 (first|(refine isRL ?_;first|refine uLa ?_|refine uM (hadd) ?_)|refine nx ?_|(refine nx2 ?_ ?_<;>intro hb))
          refine uArrTok (n:=L+1) (rows:=(rowV (upV f M (moreC L p) v) (L+1)).map encI) 7 1001 ?_ (by rw [List.length_map,zaB]) (by rw [List.length_map,zaB];omega)
          repeat' (first|refine nx ?_|(refine nx2 ?_ ?_<;>intro hb))
          exact zbZ (by rfl) (by rfl) rfl
        · repeat' (first|(refine isRL ?_;first|refine uLwA ?_|refine uLa ?_|(refine isCl ?_;first|refine uM (hadd) ?_|refine uC (hCj) ?_))|refine nx ?_|(refine nx2 ?_ ?_<;>intro hb))
          exact ⟨j+1,by omega,⟨by omega,by omega⟩,subA,subA⟩
      · rw [hPs j hjM]
        repeat' (first|(refine isRL ?_;first|refine uLwA ?_|refine uLa ?_|refine uC (hCj) ?_)|refine nx ?_|(refine nx2 ?_ ?_<;>intro hb))
        exact ⟨j+1,by omega,⟨by omega,by omega⟩,subA,subA⟩
    · obtain rfl:j=M+L+1:=by omega
      have hfin:P (M+L+1)=upV f M (moreC L p) v:=by
        rw [hPend]
        congr 1
        unfold moreC
        split<;>omega
      rw [hfin]
      iterate 17 (first|refine uLa ?_|refine nx ?_|(refine nx2 ?_ ?_<;>intro hb))
      refine uArrTok (n:=L+1) (rows:=(rowV (upV f M (moreC L p) v) (L+1)).map encI) 7 1001 ?_ (by rw [List.length_map,zaB]) (by rw [List.length_map,zaB];omega)
      repeat' (first|refine nx ?_|(refine nx2 ?_ ?_<;>intro hb))
      exact zbZ (by rfl) (by rfl) rfl
end Go.Proofs.YtiplihojmfbjkaaGreat
