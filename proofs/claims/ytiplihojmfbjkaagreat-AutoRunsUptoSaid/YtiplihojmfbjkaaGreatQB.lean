/- Walks: patterns put together. -/
import Derived.Test.YtiplihojmfbjkaaGreatWI
import Derived.Test.YtiplihojmfbjkaaGreatWM
import Derived.Test.YtiplihojmfbjkaaGreatMH
import Derived.Test.YtiplihojmfbjkaaGreatQ2
import Derived.Test.YtiplihojmfbjkaaGreatVC
import Derived.Test.YtiplihojmfbjkaaGreatMQ
import Derived.Test.YtiplihojmfbjkaaGreatGD
set_option maxRecDepth 100000
set_option maxHeartbeats 4000000
namespace Go.Proofs.YtiplihojmfbjkaaGreat
open Go.RowKit
set_option maxHeartbeats 16000000
abbrev zPat:List D:=[.v (.int .i64 0),.v (.string ⟨#[]⟩),.v (.int .i64 0),.v (.int .i64 0),.v (.string ⟨#[]⟩),.v (.int .i64 0),.v (.int .i64 0),.v (.float .f64 0),.v (.string ⟨#[]⟩),.sl [],
      .v (.int .i64 0),.v (.string ⟨#[]⟩),.v (.int .i64 0),.v (.int .i64 0),.v (.float .f64 0),.v (.string ⟨#[]⟩),.sl [],.v (.int .i64 0),.v (.int .i64 0),.sl []]
theorem zku {l:List Pt} {k:Int} {q:Pt} {i:Nat} (hq:l[i]?=some q):(l.take (i+1)).flatMap (openP k)=(l.take i).flatMap (openP k)++openP k q:=by
  rw [List.take_add_one,hq,Option.toList_some,List.flatMap_append,List.flatMap_singleton]
theorem znx {α β:Type} {f:α→List β} {l:List α} {k:Nat} {q:α} (hq:l[k]?=some q):((l.take k).flatMap f).length+(f q).length≤(l.flatMap f).length:=by
  have e:l=l.take (k+1)++l.drop (k+1):=(List.take_append_drop _ _).symm
  rw [List.take_add_one,hq,Option.toList_some] at e
  have:(l.flatMap f).length=((l.take k++[q]++l.drop (k+1)).flatMap f).length:=by rw [← e]
  rw [this,List.flatMap_append,List.flatMap_append]
  simp
theorem zgQ (p:Pt) (m:Int):CallsV Tryz.prog 74 [.dat (encP p),vI m] (.val (.dat (encP (quantP p m)))):=by
  (refine zaa (Ty:=Ty) zad Tryz.func74 rfl rfl rfl fun w0 S0=>?_;refine enA ?_)
  repeat refine nx ?_
  exact zab (by rfl) (zlD (by rw [zaM (quantP p m)];rfl))
theorem zib (k:Int) (l:List Pt) (hb:(l.flatMap (openP k)).length≤1000000):CallsV Tryz.prog 72 [vI k,vL (l.map encP)] (.val (.dat (encP (joinP k l)))):=by
  (refine zaa (Ty:=Ty) zad Tryz.func72 rfl rfl rfl fun w0 S0=>?_;refine enA ?_)
  have hlm:(l.map encP).length=l.length:=List.length_map _
  refine zbm (t:=1) rfl rfl fun hlim=>?_
  repeat refine nx ?_
  refine uNil 5 100 34 20 ?_
  refine zay (α:=Nat) (fun i=>[(0,vI k),(4,.one (.po 4 0)),(5,.one (.own 100 (((l.take i).flatMap (openP k)).map encP))),(8,vL (l.map encP)),(9,vI ((l.map encP).length:Int)),(10,vI i)]) (fun _=>[(4,.box 34 zPat),(100,.tok 34 20)]) (fun i=>i≤l.length) (fun i=>l.length - i) 0 (Nat.zero_le _) subA subA ?_
  intro i hi
  by_cases hlt:i < l.length
  · obtain ⟨q,hq⟩:∃ q,l[i]?=some q:=⟨_,List.getElem?_eq_getElem hlt⟩
    have hnx:=zku (k:=k) hq
    have hfl:=znx (f:=openP k) hq
    by_cases hk:q.kind=k
    · have ho:openP k q=q.kids:=by unfold openP;rw [if_pos hk]
      rw [ho] at hnx hfl
      have hnx':((l.take i).flatMap (openP k)).map encP++q.kids.map encP=((l.take (i+1)).flatMap (openP k)).map encP:=by rw [hnx,List.map_append]
      repeat refine nx ?_
      exact ⟨i+1,by omega,hlt,subA,subA⟩
    · have ho:openP k q=[q]:=by unfold openP;rw [if_neg hk]
      rw [ho] at hnx hfl
      have hnx':((l.take i).flatMap (openP k)).map encP++[encP q]=((l.take (i+1)).flatMap (openP k)).map encP:=by rw [hnx,List.map_append];rfl
      rw [List.length_singleton] at hfl
      repeat refine nx ?_
      exact ⟨i+1,by omega,hlt,subA,subA⟩
  · have hil:i=l.length:=by omega
    subst hil
    rw [List.take_length]
    rcases zbq k l with ⟨p,h1,h2⟩ | ⟨h1,h2⟩
    · rw [h1]
      repeat refine nx ?_
      exact zcg rfl rfl rfl rfl rfl (zan _) (by rw [h2])
    · have hne:¬ ((((l.flatMap (openP k)).map encP).length:Int)=1):=by rw [List.length_map];omega
      repeat refine nx ?_
      exact zab (by rfl) (zlD (by rw [h2,zaM];rfl))
end Go.Proofs.YtiplihojmfbjkaaGreat
namespace Go.Proofs.YtiplihojmfbjkaaGreat
open Go.RowKit
set_option maxHeartbeats 16000000
def encMv (v:Mv):List D:=[.v (.int .i64 v.src),.v (.int .i64 v.dst),.v (.int .i64 v.elem)]
def autoS (m:Mach):Obs:=[(1000,.obj 47 [.own 1001 (m.elems.map encP),.own 1002 (m.moves.map encMv),.d (.v (.int .i64 m.states))]),(1001,.tok 34 20),(1002,.tok 121 3)]
theorem znE (fr:Fr) (v:Value):ev fr (.const v)=constV v:=rfl
theorem znb:constV (.agg #[.int .i64 0,.string ⟨#[]⟩,.int .i64 0,.int .i64 0,.string ⟨#[]⟩,.int .i64 0,.int .i64 0,.float .f64 0,.string ⟨#[]⟩,.slice none 0 0,.int .i64 0,.string ⟨#[]⟩,.int .i64 0,.int .i64 0,.float .f64 0,.string ⟨#[]⟩,.slice none 0 0,.int .i64 0,.int .i64 0,.slice none 0 0])=some (.dat zPat):=by kernel_rfl
theorem zpj (fr:Fr):layR 20 fr 0 [(0,.const (.agg #[.int .i64 0,.string ⟨#[]⟩,.int .i64 0,.int .i64 0,.string ⟨#[]⟩,.int .i64 0,.int .i64 0,.float .f64 0,.string ⟨#[]⟩,.slice none 0 0,.int .i64 0,.string ⟨#[]⟩,.int .i64 0,.int .i64 0,.float .f64 0,.string ⟨#[]⟩,.slice none 0 0,.int .i64 0,.int .i64 0,.slice none 0 0]))]=some [zPat] :=
  zaj (by rw [znE,znb];rfl) (by rfl) (zaT _ _ _)
theorem znj (l:List Mv):sized 3 (l.map encMv)=true:=by
  unfold sized;rw [List.all_map];exact List.all_eq_true.2 fun _ _=>rfl
theorem zjM (m:Mach) (hb:fits 1 m):CallsM Tryz.prog 124 [.one (.po 1000 0)] (autoS m) (vI m.states) (autoS (stM m)):=by
  obtain ⟨h1,h2,h3,h4⟩:=hb
  have e1:m.states+1 - 1=m.states:=by omega
  unfold autoS
  (refine zav (Ty:=Ty) zad Tryz.func124 rfl rfl rfl (by rfl) fun w0 S0 hp=>?_;refine enA ?_)
  repeat' refine nx ?_
  exact zbt (by rfl) (by rw [e1]) ghasA
theorem zf2 (m:Mach) (s t e:Int) (hb:m.moves.length+1≤40000):CallsM Tryz.prog 123 [.one (.po 1000 0),vI s,vI t,vI e] (autoS m) (.tup []) (autoS (mvM s t e m)):=by
  have hz:=znj m.moves
  unfold autoS
  (refine zav (Ty:=Ty) zad Tryz.func123 rfl rfl rfl (by rfl) fun w0 S0 hp=>?_;refine enA ?_)
  have hnx:m.moves.map encMv++[[.v (.int .i64 s),.v (.int .i64 t),.v (.int .i64 e)]]=(m.moves++[Mv.mk s t e]).map encMv:=by rw [List.map_append];rfl
  repeat' refine nx ?_
  exact zcZ (by rfl) rfl ghasA
end Go.Proofs.YtiplihojmfbjkaaGreat
namespace Go.Proofs.YtiplihojmfbjkaaGreat
open Go.RowKit
theorem znJ (l:List Bool) (i:Int) (h0:0≤i):CallsV Tryz.prog 85 [vL (l.map encB),vI i] (.val (vB (hasB l i.toNat))):=by
  have hlm:(l.map encB).length=l.length:=List.length_map _
  (refine zaa (Ty:=Ty) zad Tryz.func85 rfl rfl rfl fun w0 S0=>?_;refine enA ?_)
  by_cases hi:i < (l.length:Int)
  · obtain ⟨b,hb⟩:∃ b,l[i.toNat]?=some b:=⟨_,List.getElem?_eq_getElem (by omega)⟩
    repeat' (first|refine nx ?_|(refine nx2 ?_ ?_<;>intro hb))
    exact zab (by rfl) (by rw [zcN hb];rfl)
  · have hf:hasB l i.toNat=false:=by unfold hasB;rw [List.getElem?_eq_none (by omega)];rfl
    repeat' (first|refine nx ?_|(refine nx2 ?_ ?_<;>intro hb))
    exact zab (by rfl) (by rw [hf];rfl)
theorem znG {l:List Bool} {k:Nat} (b:Bool) (hk:k < l.length):(l.map encB).take (0+k)++[[.v (.bool b)]]++(l.map encB).drop (0+k+1)=(l.set k b).map encB:=by
  rw [Nat.zero_add,List.map_set,List.set_eq_take_append_cons_drop,if_pos (by rw [List.length_map];exact hk),List.append_assoc];rfl
def closeS (out:List Bool) (todo:List Int) (tot n:Nat):Obs:=[(1001,.cell 72 (.win 1003 0 n n 1)),(1002,.cell 55 (.que 1004 1 tot (todo.map encI))),(1003,.arr 4 1 (out.map encB)),(1004,.tok 3 1)]
theorem zoL (q:Qs) (x:Int) (n:Nat) (hl:q.1.length=n) (h0:0≤x) (hx:x < n) (hn:n≤1000000):CallsM Tryz.prog 84 [vI x,.one (.po 1001 0),.one (.po 1002 0)] (closeS q.1 q.2 (trues q.1) n) (.tup []) (closeS (enterQ q x).1 (enterQ q x).2 (trues (enterQ q x).1) n):=by
  obtain ⟨out,todo⟩:=q
  dsimp only at hl
  have htn:=ziG out
  have hlm:(out.map encB).length=n:=by rw [List.length_map];exact hl
  have hz:sized 1 (todo.map encI)=true:=by unfold sized;rw [List.all_map];exact List.all_eq_true.2 fun _ _=>rfl
  obtain ⟨b,hb⟩:∃ b,out[x.toNat]?=some b:=⟨_,List.getElem?_eq_getElem (by omega)⟩
  have hbb:(out.map encB)[0+x.toNat]?=some [.v (.bool b)]:=by rw [Nat.zero_add,List.getElem?_map,hb];rfl
  have hhas:hasB out x.toNat=b:=zcN hb
  cases b with
  | true =>
    have e:enterQ (out,todo) x=(out,todo):=if_pos hhas
    rw [e]
    unfold closeS
    (refine zav (Ty:=Ty) zad Tryz.func84 rfl rfl rfl (by rfl) fun w0 S0 hp=>?_;refine enA ?_)
    repeat' (first|(refine isRL ?_;first|refine uWix ?_|refine uPelv (.bool true) ?_ hbb)|refine nx ?_|(refine nx2 ?_ ?_<;>intro hb))
    exact zcZ (by rfl) rfl ghasA
  | false =>
    have hlt:x.toNat < out.length:=by omega
    have e:enterQ (out,todo) x=(out.set x.toNat true,todo++[x]):=if_neg (by rw [hhas];decide)
    have hc:=(zjZ hlt hhas).1
    have hu:=znG true hlt
    have hap:todo.map encI++[encI x]=(todo++[x]).map encI:=by rw [List.map_append];rfl
    have htr:trues out+[encI x].length=trues (out.set x.toNat true):=by rw [hc];rfl
    rw [e]
    unfold closeS
    (refine zav (Ty:=Ty) zad Tryz.func84 rfl rfl rfl (by rfl) fun w0 S0 hp=>?_;refine enA ?_)
    repeat' (first|(refine isRL ?_;first|refine uWix ?_|refine uPelv (.bool false) ?_ hbb|refine uPev ((out.set x.toNat true).map encB) ?_ (hrows:=hu) (hm:=by rw [List.length_map];omega)|refine uApq ?_ (hr':=hap) (hn1:=htr))|refine nx ?_|(refine nx2 ?_ ?_<;>intro hb))
    exact zcZ (by rfl) rfl ghasA
end Go.Proofs.YtiplihojmfbjkaaGreat
namespace Go.Proofs.YtiplihojmfbjkaaGreat
open Go.RowKit
theorem zqc:∀ (p:Pt) (s t:Int) (m:Mach),shapeP p=true→fits (nodesP p) m→CallsM Tryz.prog 69 [.one (.po 1000 0),.dat (encP p),vI s,vI t] (autoS m) (.tup []) (autoS (layM p s t m)):=Pt.ind fun p ih s t m hs hb=>by
  have hsk:=zbz hs
  have hnp:=zbl p
  have hlm:(p.kids.map encP).length=p.kids.length:=List.length_map _
  rcases zbQ hs with ⟨hk,hk0⟩ | ⟨hk,hne⟩ | ⟨hk,⟨k,hkk⟩,hm⟩
  · rw [zcx hk]
    have hlE:(m.elems.map encP).length=m.elems.length:=List.length_map _
    have hM:=zf2 m s t ((m.elems.map encP).length:Int) (by have:=hb.2.1;omega)
    rw [← hlE]
    have hz:=zaU m.elems
    obtain ⟨h1,h2,h3,h4⟩:=hb
    have hnx:m.elems.map encP++[encP p]=(m.elems++[p]).map encP:=by rw [List.map_append];rfl
    simp only [autoS,mvM,elM] at hM ⊢
    rcases hk with hk|hk
    all_goals
      (refine zav (Ty:=Ty) zad Tryz.func69 rfl rfl rfl (by rfl) fun w0 S0 hp=>?_;refine enA ?_)
      repeat' (first|refine uM (hM) ?_|refine nxU ?_|(refine nx2 ?_ ?_<;>intro hb))
      refine uBig ?_
      repeat' (first|refine nxD ?_)
      refine mBs (rows:=[zPat]) ?_ (hr:=by exact zpj _)
      repeat' (first|refine nxD ?_)
      change TailOk _ _ _ _ _ _
      refine uTail ?_
      refine uRn 36 1001 (zaH (hp 1001 rfl)) ?_
      repeat' (first|refine nxU ?_|(refine nx2 ?_ ?_<;>intro hb))
      exact zcZ (by rfl) rfl ghasA
  · have hlen:0 < p.kids.length:=List.length_pos_iff.2 hne
    have hkn:p.kids.length≤20000:=by have:=zcq nodesP p.kids (fun x _=>zd3 x);have:=hb.1;omega
    have hzk:sized 20 (p.kids.map encP)=true:=zaU p.kids
    by_cases h3:p.kind=3
    · have n1:(p.kind==1)=false:=by simp [h3]
      have n2:(p.kind==2)=false:=by simp [h3]
      have n3:(p.kind==3)=true:=by simp [h3]
      have hX:(((p.kids.map encP).length:Int) - 1).toNat=p.kids.length - 1:=by omega
      obtain ⟨kl,hkl⟩:∃ k,p.kids[p.kids.length - 1]?=some k:=⟨_,List.getElem?_eq_getElem (by omega)⟩
      rw [zdj h3 hkl]
      rw [← hX] at hkl ⊢
      have hb1:=hb
      obtain ⟨h1,h2,h4,h5⟩:=hb
      generalize hXX:(((p.kids.map encP).length:Int) - 1).toNat=X at hkl hX ⊢
      have hlt:((p.kids.take X).map encP).length=X:=by rw [List.length_map,List.length_take];omega
      have hE:=ih kl (List.mem_of_getElem? hkl) ((p.kids.take X).foldl upP (s,m)).1 t ((p.kids.take X).foldl upP (s,m)).2 (hsk kl (List.mem_of_getElem? hkl)) (zcK (zgI (t:=t) hs hkl hb1).1 (by omega))
      subst hXX
      simp only [autoS] at hE ⊢
      (refine zav (Ty:=Ty) zad Tryz.func69 rfl rfl rfl (by rfl) fun w0 S0 hp=>?_;refine enA ?_)
      repeat' (first|refine nxU ?_|(refine nx2 ?_ ?_<;>intro hb))
      refine zay (α:=Nat) (fun i=>[(0,.one (.po 1000 0)),(2,vI ((p.kids.take i).foldl upP (s,m)).1),(3,vI t),(5,.one (.po 5 0)),(8,vI (((p.kids.map encP).length:Int) - 1)),(49,vL ((p.kids.take (((p.kids.map encP).length:Int) - 1).toNat).map encP)),(50,vI (((p.kids.take (((p.kids.map encP).length:Int) - 1).toNat).map encP).length:Int)),(51,vI i)])
        (fun i=>[(5,.box 34 (encP p)),(1000,.obj 47 [.own 1001 (((p.kids.take i).foldl upP (s,m)).2.elems.map encP),.own 1002 (((p.kids.take i).foldl upP (s,m)).2.moves.map encMv),.d (.v (.int .i64 ((p.kids.take i).foldl upP (s,m)).2.states))]),(1001,.tok 34 20),(1002,.tok 121 3)])
        (fun i=>i≤p.kids.length - 1) (fun i=>p.kids.length - 1 - i) 0 (Nat.zero_le _) subA subA ?_
      intro i hi
      by_cases hlti:i < p.kids.length - 1
      · obtain ⟨q,hq⟩:∃ q,p.kids[i]?=some q:=⟨_,List.getElem?_eq_getElem (by omega)⟩
        have hqt:(p.kids.take (((p.kids.map encP).length:Int) - 1).toNat)[i]?=some q:=by rw [List.getElem?_take,if_pos (by omega)];exact hq
        have hf:=(zgI (s:=s) (t:=t) hs hq hb1).1
        have hst:(p.kids.take (i+1)).foldl upP (s,m)=upP ((p.kids.take i).foldl upP (s,m)) q:=zbe hq
        have hS:=zjM ((p.kids.take i).foldl upP (s,m)).2 (zcK hf (by omega))
        have hL:=ih q (List.mem_of_getElem? hq) ((p.kids.take i).foldl upP (s,m)).1 ((p.kids.take i).foldl upP (s,m)).2.states (stM ((p.kids.take i).foldl upP (s,m)).2) (hsk q (List.mem_of_getElem? hq)) (znT hf)
        simp only [autoS,stM] at hS hL
        repeat' (first|(refine isCl ?_;first|refine uM (hS) ?_|refine uM (hL) ?_)|refine nxU ?_|(refine nx2 ?_ ?_<;>intro hb))
        exact ⟨i+1,by omega,by omega,(by simp only [hst];exact subA),(by simp only [hst];exact subA)⟩
      · obtain rfl:i=(((p.kids.map encP).length:Int) - 1).toNat:=by omega
        repeat' (first|refine uM (hE) ?_|refine nxU ?_|(refine nx2 ?_ ?_<;>intro hb))
        exact zcZ (by rfl) rfl ghasA
    · have h4:p.kind=4:=by omega
      have n1:(p.kind==1)=false:=by simp [h4]
      have n2:(p.kind==2)=false:=by simp [h4]
      have n3:(p.kind==3)=false:=by simp [h4]
      have n4:(p.kind==4)=true:=by simp [h4]
      rw [zde h4]
      have hb1:=hb
      simp only [autoS]
      (refine zav (Ty:=Ty) zad Tryz.func69 rfl rfl rfl (by rfl) fun w0 S0 hp=>?_;refine enA ?_)
      repeat' (first|refine nxU ?_|(refine nx2 ?_ ?_<;>intro hb))
      refine zay (α:=Nat) (fun i=>[(0,.one (.po 1000 0)),(2,vI s),(3,vI t),(5,.one (.po 5 0)),(76,vL (p.kids.map encP)),(77,vI ((p.kids.map encP).length:Int)),(78,vI i)])
        (fun i=>[(5,.box 34 (encP p)),(1000,.obj 47 [.own 1001 (((p.kids.take i).foldl (fun m k=>layM k s t m) m).elems.map encP),.own 1002 (((p.kids.take i).foldl (fun m k=>layM k s t m) m).moves.map encMv),.d (.v (.int .i64 ((p.kids.take i).foldl (fun m k=>layM k s t m) m).states))]),(1001,.tok 34 20),(1002,.tok 121 3)])
        (fun i=>i≤p.kids.length) (fun i=>p.kids.length - i) 0 (Nat.zero_le _) subA subA ?_
      intro i hi
      by_cases hlti:i < p.kids.length
      · obtain ⟨q,hq⟩:∃ q,p.kids[i]?=some q:=⟨_,List.getElem?_eq_getElem hlti⟩
        have hf:=(zgI (s:=s) (t:=t) hs hq hb1).2
        have hst:(p.kids.take (i+1)).foldl (fun m k=>layM k s t m) m=layM q s t ((p.kids.take i).foldl (fun m k=>layM k s t m) m):=zbe hq
        have hL:=ih q (List.mem_of_getElem? hq) s t ((p.kids.take i).foldl (fun m k=>layM k s t m) m) (hsk q (List.mem_of_getElem? hq)) (zcK hf (by omega))
        simp only [autoS] at hL
        repeat' (first|refine uM (hL) ?_|refine nxU ?_|(refine nx2 ?_ ?_<;>intro hb))
        exact ⟨i+1,by omega,by omega,subA,(by simp only [hst];exact subA)⟩
      · obtain rfl:i=p.kids.length:=by omega
        rw [List.take_length]
        repeat' (first|refine nxU ?_|(refine nx2 ?_ ?_<;>intro hb))
        exact zcZ (by rfl) rfl ghasA
  · have n1:(p.kind==1)=false:=by simp [hk]
    have n2:(p.kind==2)=false:=by simp [hk]
    have n3:(p.kind==3)=false:=by simp [hk]
    have n4:(p.kind==4)=false:=by simp [hk]
    have n5:(p.kind==5)=true:=by simp [hk]
    have hnk:nodesP p=1+nodesP k:=by rw [hnp,hkk];simp
    have hmem:k∈p.kids:=by rw [hkk];exact List.mem_cons_self
    have hq:p.kids[0]?=some k:=by rw [hkk];rfl
    have hnp:=zd3 k
    have hst0:=hb.2.2
    rcases hm with hm|hm
    · have x1:(p.max==1)=true:=by simp [hm]
      rw [zdh hk hkk hm]
      have hM:=zf2 m s t (-1) (by have:=hb.2.1;omega)
      have hL:=ih k hmem s t (mvM s t (-1) m) (hsk k hmem) (zn6 (zcK hb (by omega)))
      simp only [autoS,mvM] at hM hL ⊢
      (refine zav (Ty:=Ty) zad Tryz.func69 rfl rfl rfl (by rfl) fun w0 S0 hp=>?_;refine enA ?_)
      repeat' (first|(refine isCl ?_;first|refine uM (hM) ?_|refine uM (hL) ?_)|refine nxU ?_|(refine nx2 ?_ ?_<;>intro hb))
      exact zbt (by rfl) rfl ghasA
    · have x1:(p.max==1)=false:=by simp [hm]
      rw [zct hk hkk (by omega)]
      have hS:=zjM m (zcK hb (by omega))
      have hf1:fits (nodesP k) (mvM s m.states (-1) (stM m)):=by
        obtain ⟨f1,f2,f3,f4⟩:=hb
        exact ⟨by show m.elems.length+_≤_;omega,by show (m.moves++_).length+2 * _≤_;rw [List.length_append,List.length_singleton];omega,by show 0≤m.states+1;omega,by show m.states+1+_≤_;omega⟩
      have hM1:=zf2 (stM m) s m.states (-1) (by have:=hb.2.1;show m.moves.length+1≤_;omega)
      have hL:=ih k hmem m.states m.states (mvM s m.states (-1) (stM m)) (hsk k hmem) hf1
      have hM2:=zf2 (layM k m.states m.states (mvM s m.states (-1) (stM m))) m.states t (-1) (by
        obtain ⟨⟨a1,a2,a3,a4⟩,_⟩:=zdl k m.states m.states (mvM s m.states (-1) (stM m)) (hsk k hmem)
        have e1:(mvM s m.states (-1) (stM m)).moves.length=m.moves.length+1:=by simp [mvM,stM]
        have e2:(mvM s m.states (-1) (stM m)).elems.length=m.elems.length:=rfl
        have e3:(mvM s m.states (-1) (stM m)).states=m.states+1:=rfl
        obtain ⟨f1,f2,f3,f4⟩:=hb
        omega)
      generalize hG:layM k m.states m.states (mvM s m.states (-1) (stM m))=G at hL hM2 ⊢
      simp only [autoS,mvM,stM] at hS hM1 hL hM2 ⊢
      (refine zav (Ty:=Ty) zad Tryz.func69 rfl rfl rfl (by rfl) fun w0 S0 hp=>?_;refine enA ?_)
      repeat' (first|(refine isCl ?_;first|refine uM (hS) ?_|refine uM (hM1) ?_|refine uM (hL) ?_|refine uM (hM2) ?_)|refine nxU ?_|(refine nx2 ?_ ?_<;>intro hb))
      exact zcZ (by rfl) rfl ghasA
end Go.Proofs.YtiplihojmfbjkaaGreat
