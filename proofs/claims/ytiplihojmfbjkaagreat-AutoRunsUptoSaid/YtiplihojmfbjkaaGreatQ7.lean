/- Walks: a set goes along an edge;sets that are the same. -/
import Derived.Test.YtiplihojmfbjkaaGreatQ1
import Derived.Test.YtiplihojmfbjkaaGreatQD
import Derived.Test.YtiplihojmfbjkaaGreatWM
import Derived.Test.YtiplihojmfbjkaaGreatMK
import Derived.Test.YtiplihojmfbjkaaGreatGR
import Derived.Test.YtiplihojmfbjkaaGreatQ4
import Derived.Test.YtiplihojmfbjkaaGreatQ6
set_option maxRecDepth 100000
set_option maxHeartbeats 16000000
namespace Go.Proofs.YtiplihojmfbjkaaGreat
open Go.RowKit
theorem go_v (m:Mach) (n:Nat) (fit:List (List Bool)) (s:List Bool) (edge along top:Int) (hm:MachOk m n) (hf:FitOk 2 m fit edge) (hf2:FitOk 1 m fit top):CallsV Tryz.prog 41 [.dat (encA m),vL (fit.map encR),vL (s.map encB),vI edge,vI along,vI top] (.own 4 1 ((closeB m.moves (staysB m fit top) (hasB (goF m.moves (goesB m fit edge along) (hasB s) n)) n).map encB)):=by
  have hC:=fun (s:List Bool)=>zjN m n fit s top hm hf2
  obtain ⟨hst,hn,hml,hL,hel⟩:=hm
  have hsl:(s.map encB).length=s.length:=List.length_map _
  have hmm:(m.moves.map encMv).length=m.moves.length:=List.length_map _
  have hG:=fun (v:Mv) (hv:v∈m.moves)=>zl8 m fit v edge along hf (hel v hv)
  have hrep:List.replicate n [D.v (.bool false)]=(List.replicate n false).map encB:=by rw [List.map_replicate];rfl
  unfold encA at hG hC ⊢
  rw [hst] at hG hC ⊢
  (refine zaa (Ty:=Ty) zad Tryz.func41 rfl rfl rfl fun w0 S0=>?_;refine enA ?_)
  repeat' (first|(refine isRL ?_;first|refine uMk n ?_|refine uWl ?_)|refine nx ?_|(refine nx2 ?_ ?_<;>intro hb))
  rw [hrep]
  refine zay (α:=Nat) (fun i=>[(1,vL (fit.map encR)),(2,vL (s.map encB)),(3,vI edge),(4,vI along),(5,vI top),(6,.one (.po 6 0)),(13,.one (.win 18 0 n n 1)),(20,vL (m.moves.map encMv)),(21,vI ((m.moves.map encMv).length:Int)),(22,vI i)]) (fun i=>[(6,.box 47 [.sl (m.elems.map encP),.sl (m.moves.map encMv),.v (.int .i64 (n:Int))]),(18,.arr 4 1 (((m.moves.take i).foldl (goStep (goesB m fit edge along) (hasB s)) (List.replicate n false)).map encB))]) (fun i=>i≤m.moves.length) (fun i=>m.moves.length - i) 0 (Nat.zero_le _) subA subA ?_
  intro i hi
  have hln:((m.moves.take i).foldl (goStep (goesB m fit edge along) (hasB s)) (List.replicate n false)).length=n:=by rw [zgf];simp
  by_cases hlt:i < m.moves.length
  · obtain ⟨v,hv⟩:∃ v,m.moves[i]?=some v:=⟨_,List.getElem?_eq_getElem hlt⟩
    have hvm:=List.mem_of_getElem? hv
    have hnx:(m.moves.take (i+1)).foldl (goStep (goesB m fit edge along) (hasB s)) (List.replicate n false)=goStep (goesB m fit edge along) (hasB s) ((m.moves.take i).foldl (goStep (goesB m fit edge along) (hasB s)) (List.replicate n false)) v:=zbe hv
    obtain ⟨b1,b2,b3,b4⟩:=hL v hvm
    have hH:=znJ s v.src b1
    have hGv:=hG v hvm
    unfold encMv at hGv
    generalize ((m.moves.take i).foldl (goStep (goesB m fit edge along) (hasB s)) (List.replicate n false))=out at hln hnx ⊢
    have hu:=znG (l:=out) (k:=v.dst.toNat) true (by omega)
    cases hs:hasB s v.src.toNat with
    | false =>
      rw [hs] at hH
      rw [show goStep (goesB m fit edge along) (hasB s) out v=out by unfold goStep;rw [hs];rfl] at hnx
      repeat' (first|refine uC (hH) ?_|refine nx ?_|(refine nx2 ?_ ?_<;>intro hb))
      exact ⟨i+1,by omega,by omega,subA,(by simp only [hnx];exact subA)⟩
    | true =>
      rw [hs] at hH
      cases hg:goesB m fit edge along v with
      | false =>
        rw [hg] at hGv
        rw [show goStep (goesB m fit edge along) (hasB s) out v=out by unfold goStep;rw [hs,hg];rfl] at hnx
        repeat' (first|(refine isCl ?_;first|refine uC (hH) ?_|refine uC (hGv) ?_)|refine nx ?_|(refine nx2 ?_ ?_<;>intro hb))
        exact ⟨i+1,by omega,by omega,subA,(by simp only [hnx];exact subA)⟩
      | true =>
        rw [hg] at hGv
        rw [show goStep (goesB m fit edge along) (hasB s) out v=out.set v.dst.toNat true by unfold goStep;rw [hs,hg];rfl] at hnx
        repeat' (first|(refine isRL ?_;first|refine uWix ?_|refine uPev ((out.set v.dst.toNat true).map encB) ?_ (hrows:=hu) (hm:=by rw [List.length_map];omega)|(refine isCl ?_;first|refine uC (hH) ?_|refine uC (hGv) ?_))|refine nx ?_|(refine nx2 ?_ ?_<;>intro hb))
        exact ⟨i+1,by omega,by omega,subA,(by simp only [hnx];exact subA)⟩
  · obtain rfl:i=m.moves.length:=by omega
    rw [List.take_length] at hln ⊢
    have hCg:=hC (m.moves.foldl (goStep (goesB m fit edge along) (hasB s)) (List.replicate n false))
    have e:goF m.moves (goesB m fit edge along) (hasB s) n=m.moves.foldl (goStep (goesB m fit edge along) (hasB s)) (List.replicate n false):=rfl
    rw [e]
    generalize m.moves.foldl (goStep (goesB m fit edge along) (hasB s)) (List.replicate n false)=out at hCg hln ⊢
    iterate 5 (first|refine nx ?_|(refine nx2 ?_ ?_<;>intro hb))
    refine uArrTok (n:=n) (rows:=out.map encB) 13 18 ?_ (by rw [List.length_map];exact hln.symm) (by rw [List.length_map];omega)
    repeat' (first|refine uCO (hCg) ?_|refine nx ?_|(refine nx2 ?_ ?_<;>intro hb))
    exact zbZ (by rfl) (by rfl) rfl
end Go.Proofs.YtiplihojmfbjkaaGreat
namespace Go.Proofs.YtiplihojmfbjkaaGreat
open Go.RowKit
def rnOf (m:Mach) (fit:List (List Bool)) (g:Gr) (ns es:List Int):Rn :=
  ⟨m.moves,fun i v=>staysB m fit (ns[i]?.getD 0) v,fun i v=>goesB m fit (es[i]?.getD 0) (alongF g (es[i]?.getD 0) (ns[i]?.getD 0) (ns[i+1]?.getD 0)) v,es.length⟩
def runS (m:Mach) (g:Gr) (fit:List (List Bool)) (ns es:List Int) (e:List (Value × VV)):Obs :=
  [(1000,.obj 143 [.d (.sl (m.elems.map encP)),.d (.sl (m.moves.map encMv)),.d (.v (.int .i64 m.states)),.d (.sl (g.nodes.map encNd)),.d (.sl (g.edges.map encEd)),.d (.sl (fit.map encR)),.d (.sl (ns.map encI)),.d (.sl (es.map encI)),.mr 1001]),(1001,.mp e)]
def InvK (R:Rn) (n:Nat) (e:List (Value × VV)):Prop:=∀ p∈e, ∃ (s:Int) (i:Nat),(0≤s∧s < n∧i≤R.L)∧p=(pl s i,vI ((R.runs n s i:Nat):Int))
theorem zj4 {s:Int} {i:Nat} (h0:0≤s) (h1:s≤1000000) (hi:i≤1000000):IsPl (pl s i) :=
  ⟨s,i,rfl,by unfold Lit.wf;simp only [Bool.and_eq_true,decide_eq_true_eq];exact ⟨Int.le_trans (by decide) h0,Int.le_trans h1 (by decide)⟩,by unfold Lit.wf;simp only [Bool.and_eq_true,decide_eq_true_eq];exact ⟨Int.le_trans (by decide) (Int.natCast_nonneg i),Int.le_trans (Int.ofNat_le.2 hi) (by decide)⟩⟩
theorem InvK.keys {R:Rn} {n:Nat} {e:List (Value × VV)} (h:InvK R n e) (hn:n≤1000000) (hL:R.L≤1000000):∀ p∈e,IsPl p.1:=fun p hp=>by
  obtain ⟨s,i,⟨h0,h1,h2⟩,rfl⟩:=h p hp
  exact zj4 h0 (by omega) (by omega)
theorem InvK.same {R:Rn} {n:Nat} {e:List (Value × VV)} (h:InvK R n e) {s:Int} {i:Nat}:∀ p∈e,p.1=pl s i→p.2=vI ((R.runs n s i:Nat):Int):=fun p hp he=>by
  obtain ⟨s',i',_,rfl⟩:=h p hp
  obtain ⟨rfl,e2⟩:=zph he
  obtain rfl:i'=i:=by omega
  rfl
structure RunOk (m:Mach) (n:Nat) (g:Gr) (fit:List (List Bool)) (ns es:List Int):Prop where
  mach:MachOk m n
  path:PathOk g ns es
  few:es.length≤1000
  nodes:∀ x∈ns,FitOk 1 m fit x
  edges:∀ x∈es,FitOk 2 m fit x
theorem zmr {m:Mach} {n:Nat} {g:Gr} {fit:List (List Bool)} {ns es:List Int} {rk:Int→Nat} (hok:RunOk m n g fit ns es) (hR:(rnOf m fit g ns es).Ok rk n):∀ (k:Nat) (s:Int) (i:Nat) (e:List (Value × VV)),(rnOf m fit g ns es).mu rk n s i < k→0≤s→s < n→i≤es.length→InvK (rnOf m fit g ns es) n e→
    CallsN Tryz.prog 80 [.one (.po 1000 0),.dat [.v (.int .i64 s),.v (.int .i64 i)]] (runS m g fit ns es e) (fun y σ1=>∃ e':List (Value × VV),y=vI (((rnOf m fit g ns es).runs n s i:Nat):Int)∧σ1=runS m g fit ns es e'∧InvK (rnOf m fit g ns es) n e')
  | 0,_,_,_,h,_,_,_,_=>by omega
  | k+1,s,i,e,hmu,h0,h1,hi,hInv=>by
    have ih:=zmr hok hR k
    obtain ⟨hM,hP,hfew,hfn,hfe⟩:=hok
    have hML:(rnOf m fit g ns es).L=es.length:=rfl
    have hMv:(rnOf m fit g ns es).mv=m.moves:=rfl
    obtain ⟨hst,hsm,hml,hL,hel⟩:=hM
    have hks:=hInv.keys hsm (by omega)
    have hkey:IsPl (pl s i):=zj4 h0 (by omega) (by omega)
    have hln:(ns.map encI).length=ns.length:=List.length_map _
    have hle:(es.map encI).length=es.length:=List.length_map _
    have hlm:(m.moves.map encMv).length=m.moves.length:=List.length_map _
    have hPl:=hP.len
    obtain ⟨x,hx⟩:∃ x,ns[i]?=some x:=⟨_,List.getElem?_eq_getElem (by omega)⟩
    by_cases hin:∃ p∈e,p.1=pl s i
    · have hgot:if true=true then (∃ p∈e,p.1=pl s i)∧ ∀ p∈e,p.1=pl s i→p.2=vI (((rnOf m fit g ns es).runs n s i:Nat):Int) else (∀ p∈e,p.1≠pl s i)∧vI (((rnOf m fit g ns es).runs n s i:Nat):Int)=vI 0:=by
        rw [if_pos rfl];exact ⟨hin,hInv.same⟩
      unfold runS
      (refine zcX (Ty:=Ty) zad Tryz.func80 rfl rfl rfl (by rfl) fun w0 S0 hp=>?_;refine enA ?_)
      repeat' (first|refine mLookS (b:=true) hks hkey hgot ?_|refine nx ?_|(refine nx2 ?_ ?_<;>intro hb))
      exact zkw (by rfl) rfl ghasA ⟨e,rfl,rfl,hInv⟩
    · have hno:∀ p∈e,p.1≠pl s i:=fun p hp he=>hin ⟨p,hp,he⟩
      have hgot:if false=true then (∃ p∈e,p.1=pl s i)∧ ∀ p∈e,p.1=pl s i→p.2=vI 0 else (∀ p∈e,p.1≠pl s i)∧vI 0=vI 0:=by
        rw [if_neg (by decide)];exact ⟨hno,rfl⟩
      have hrun:=hR.runs_eq h0 h1 i
      obtain ⟨A,hA⟩:∃ A:Nat→Nat, ∀ j,A j=(rnOf m fit g ns es).base s i+(rnOf m fit g ns es).tot (fun d=>(rnOf m fit g ns es).runs n d i) (fun d=>(rnOf m fit g ns es).runs n d (i+1)) s i (m.moves.take j):=⟨_,fun _=>rfl⟩
      have hA0:A 0=(rnOf m fit g ns es).base s i:=by rw [hA,List.take_zero];rfl
      have hAl:∀ j,A j≤1+1001 * j:=fun j=>by
        rw [hA]
        have q1:=(rnOf m fit g ns es).tot_le (a:=fun d=>(rnOf m fit g ns es).runs n d i) (b:=fun d=>(rnOf m fit g ns es).runs n d (i+1)) (fun d=>(rnOf m fit g ns es).runs_le n d i) (fun d=>(rnOf m fit g ns es).runs_le n d (i+1)) s i (m.moves.take j)
        have q2:(rnOf m fit g ns es).base s i≤1:=by unfold Rn.base;split<;>omega
        have q3:(m.moves.take j).length≤j:=by rw [List.length_take];omega
        have q4:1001 * (m.moves.take j).length≤1001 * j:=Nat.mul_le_mul_left _ q3
        omega
      have hAn:∀ (j:Nat) (v:Mv),m.moves[j]?=some v→A (j+1)=A j+if v.src=s then (rnOf m fit g ns es).part (fun d=>(rnOf m fit g ns es).runs n d i) (fun d=>(rnOf m fit g ns es).runs n d (i+1)) i v else 0:=fun j v hv=>by
        rw [hA,hA,(rnOf m fit g ns es).tot_next _ _ s i hv,Nat.add_assoc]
      have hfin:(rnOf m fit g ns es).runs n s i=min (A m.moves.length) 1001:=by
        rw [hrun,hA,List.take_length,hMv];rfl
      have hmuS:∀ v∈m.moves,v.src=s→staysB m fit x v=true→(rnOf m fit g ns es).mu rk n v.dst i < k:=fun v hv hvs hvb=>by
        have:=hR.stay (i:=i) hv (by show staysB m fit (ns[i]?.getD 0) v=true;rw [hx];exact hvb)
        rw [hvs] at this;omega
      have hmuG:∀ v∈m.moves,v.src=s→i < es.length→(rnOf m fit g ns es).mu rk n v.dst (i+1) < k:=fun v hv hvs hlt=>by
        have:=hR.goes (i:=i) hv hlt
        rw [hvs] at this;omega
      have hSt:=fun (v:Mv) (hv:v∈m.moves)=>zjP m fit v x (hfn x (List.mem_of_getElem? hx)) (hel v hv)
      unfold encA at hSt
      have hor:(s=1∧i=es.length)∨(s=1∧¬ i=es.length)∨¬ s=1:=by omega
      have hbase:((A 0:Nat):Int)=if s=1∧i=es.length then 1 else 0:=by
        rw [hA0];unfold Rn.base;rw [hML];split<;>rfl
      unfold runS
      (refine zcX (Ty:=Ty) zad Tryz.func80 rfl rfl rfl (by rfl) fun w0 S0 hp=>?_;refine enA ?_)
      iterate 29 (first|refine mLookS (b:=false) hks hkey hgot ?_|refine nx ?_|(refine nx2 ?_ ?_<;>intro hb))
      refine zqg 5 [(0,.one (.po 1000 0)),(3,.one (.po 3 0)),(4,vI 0),(7,vI ((A 0:Nat):Int))] ((3,.box 146 [.v (.int .i64 s),.v (.int .i64 i)]) :: runS m g fit ns es e) ?_ ?_
      · rcases hor with hb|hb|hb
        all_goals first|(rw [if_pos (by omega)] at hbase;obtain ⟨hb1,hb2⟩:=hb)|rw [if_neg (by omega)] at hbase
        all_goals
          repeat' (first|refine nx ?_|(refine nx2 ?_ ?_<;>intro hb))
          exact ⟨by simp only [hbase];(repeat (first|exact zka _|refine ziD (by rfl) ?_)),subA⟩
      clear hor
      unfold runS
      repeat' (first|refine nx ?_|(refine nx2 ?_ ?_<;>intro hb))
      refine zay (α:=Nat × List (Value × VV)) (fun z=>[(0,.one (.po 1000 0)),(3,.one (.po 3 0)),(4,vI 0),(7,vI ((A z.1:Nat):Int)),(40,vL (m.moves.map encMv)),(41,vI ((m.moves.map encMv).length:Int)),(42,vI z.1)])
        (fun z=>(3,.box 146 [.v (.int .i64 s),.v (.int .i64 i)]) :: runS m g fit ns es z.2)
        (fun z=>z.1≤m.moves.length∧InvK (rnOf m fit g ns es) n z.2) (fun z=>m.moves.length - z.1) (0,e) ⟨Nat.zero_le _,hInv⟩ subA subA ?_
      rintro ⟨j,e1⟩ ⟨hj,hI1⟩
      dsimp only at hj hI1 ⊢
      have hAj:=hAl j
      by_cases hlt:j < m.moves.length
      · obtain ⟨v,hv⟩:∃ v,m.moves[j]?=some v:=⟨_,List.getElem?_eq_getElem hlt⟩
        have hvm:=List.mem_of_getElem? hv
        have hnx:=hAn j v hv
        obtain ⟨b1,b2,b3,b4⟩:=hL v hvm
        have hev:=hel v hvm
        have hSv:=hSt v hvm
        unfold encMv at hSv
        unfold runS
        by_cases hs:v.src=s
        · rw [if_pos hs] at hnx
          unfold Rn.part at hnx
          have hst0:(rnOf m fit g ns es).st i v=staysB m fit x v:=by
            show staysB m fit (ns[i]?.getD 0) v=_
            rw [hx];rfl
          rw [hst0] at hnx
          cases hsb:staysB m fit x v with
          | true =>
            rw [hsb] at hSv hnx
            rw [if_pos rfl] at hnx
            have hle1:=(rnOf m fit g ns es).runs_le n v.dst i
            have hC:=ih v.dst i e1 (hmuS v hvm hs hsb) b3 b4 hi hI1
            unfold runS at hC
            repeat' (first|(refine isRL ?_;first|refine uNx hC (fun e2 hI2=>?_)|refine uC (hSv) ?_)|refine mC (hSv) ?_|refine nx ?_|(refine nx2 ?_ ?_<;>intro hb))
            exact ⟨(j+1,e2),by show _ - (j+1) < _;omega,⟨by show j+1≤_;omega,hI2⟩,(by simp only [hnx,Int.natCast_add];exact subA),subA⟩
          | false =>
            rw [hsb] at hSv hnx
            rw [if_neg (by decide)] at hnx
            by_cases hlti:i < es.length
            · obtain ⟨ed,hed⟩:∃ ed,es[i]?=some ed:=⟨_,List.getElem?_eq_getElem hlti⟩
              obtain ⟨y,hy⟩:∃ y,ns[i+1]?=some y:=⟨_,List.getElem?_eq_getElem (by omega)⟩
              have hyi:(ns.map encI)[((i:Int)+1).toNat]?=some (encI y):=by rw [show ((i:Int)+1).toNat=i+1 by omega,List.getElem?_map,hy];rfl
              have hAl:=zgE g ed x y
              have hGo:=zl8 m fit v ed (alongF g ed x y) (hfe ed (List.mem_of_getElem? hed)) hev
              unfold encA encMv at hGo
              unfold encG at hAl
              have hgo0:(rnOf m fit g ns es).go i v=goesB m fit ed (alongF g ed x y) v:=by
                show goesB m fit (es[i]?.getD 0) (alongF g (es[i]?.getD 0) (ns[i]?.getD 0) (ns[i+1]?.getD 0)) v=_
                rw [hx,hy,hed];rfl
              rw [hgo0] at hnx
              cases hgb:goesB m fit ed (alongF g ed x y) v with
              | true =>
                rw [hgb] at hGo hnx
                rw [if_pos ⟨hlti,rfl⟩] at hnx
                have hle1:=(rnOf m fit g ns es).runs_le n v.dst (i+1)
                have hC:=ih v.dst (i+1) e1 (hmuG v hvm hs hlti) b3 b4 (by omega) hI1
                rw [Int.natCast_add,Int.natCast_one] at hC
                unfold runS at hC
                repeat' (first|(refine isRL ?_;first|refine uNx hC (fun e2 hI2=>?_)|(refine isCl ?_;first|refine uC (hSv) ?_|refine uC (hAl) ?_|refine uC (hGo) ?_))|(refine imCl ?_;first|refine mC (hSv) ?_|refine mC (hAl) ?_|refine mC (hGo) ?_)|refine nx ?_|(refine nx2 ?_ ?_<;>intro hb))
                exact ⟨(j+1,e2),by show _ - (j+1) < _;omega,⟨by show j+1≤_;omega,hI2⟩,(by simp only [hnx,Int.natCast_add];exact subA),subA⟩
              | false =>
                rw [hgb] at hGo hnx
                rw [if_neg (fun h=>by cases h.2),Nat.add_zero] at hnx
                repeat' (first|(refine isCl ?_;first|refine uC (hSv) ?_|refine uC (hAl) ?_|refine uC (hGo) ?_)|(refine imCl ?_;first|refine mC (hSv) ?_|refine mC (hAl) ?_|refine mC (hGo) ?_)|refine nx ?_|(refine nx2 ?_ ?_<;>intro hb))
                exact ⟨(j+1,e1),by show _ - (j+1) < _;omega,⟨by show j+1≤_;omega,hI1⟩,(by simp only [hnx];exact subA),subA⟩
            · rw [if_neg (fun h=>hlti h.1),Nat.add_zero] at hnx
              repeat' (first|refine uC (hSv) ?_|refine mC (hSv) ?_|refine nx ?_|(refine nx2 ?_ ?_<;>intro hb))
              exact ⟨(j+1,e1),by show _ - (j+1) < _;omega,⟨by show j+1≤_;omega,hI1⟩,(by simp only [hnx];exact subA),subA⟩
        · rw [if_neg hs,Nat.add_zero] at hnx
          repeat' (first|refine nx ?_|(refine nx2 ?_ ?_<;>intro hb))
          exact ⟨(j+1,e1),by show _ - (j+1) < _;omega,⟨by show j+1≤_;omega,hI1⟩,(by simp only [hnx];exact subA),subA⟩
      · obtain rfl:j=m.moves.length:=by omega
        have hmin:(if (1001:Int) < ((A m.moves.length:Nat):Int) then (1001:Int) else ((A m.moves.length:Nat):Int))=(((rnOf m fit g ns es).runs n s i:Nat):Int):=by
          rw [hfin];split<;>omega
        unfold runS
        have hks1:=hI1.keys hsm (by omega)
        repeat' (first|(refine uLin 6 rfl rfl ?_;simp only [List.take_succ_cons,List.take_zero,List.drop_succ_cons,List.drop_zero])|(refine isRL ?_;first|refine uMinY hmin ?_|refine uMuS hks1 hkey (fun e2 he2=>?_))|refine nx ?_|(refine nx2 ?_ ?_<;>intro hb))
        have hI2:InvK (rnOf m fit g ns es) n e2:=fun p hp=>by
          rcases he2 p hp with h|h
          · exact ⟨s,i,⟨h0,h1,hi⟩,h⟩
          · exact hI1 p h
        exact zkw (by rfl) rfl ghasA ⟨e2,rfl,rfl,hI2⟩
end Go.Proofs.YtiplihojmfbjkaaGreat
namespace Go.Proofs.YtiplihojmfbjkaaGreat
open Go.RowKit
def Rn.runU (R:Rn):Nat→Int→Nat→Nat
  | 0,_,_=>0
  | k+1,s,i=>R.base s i+R.tot (fun d=>R.runU k d i) (fun d=>R.runU k d (i+1)) s i R.mv
theorem Rn.cap_tot (R:Rn) {a b a' b':Int→Nat} (ha:∀ d,a d=capN (a' d)) (hb:∀ d,b d=capN (b' d)) (s:Int) (i:Nat):∀ (l:List Mv) (c:Nat),capN (c+R.tot a b s i l)=capN (c+R.tot a' b' s i l)
  | [],_=>rfl
  | v :: l,c=>by
    have h1:R.tot a b s i (v :: l)=(if v.src=s then R.part a b i v else 0)+R.tot a b s i l:=by unfold Rn.tot;rw [List.map_cons,List.sum_cons]
    have h2:R.tot a' b' s i (v :: l)=(if v.src=s then R.part a' b' i v else 0)+R.tot a' b' s i l:=by unfold Rn.tot;rw [List.map_cons,List.sum_cons]
    have h3:∃ x y,(if v.src=s then R.part a b i v else 0)=x∧(if v.src=s then R.part a' b' i v else 0)=y∧x=capN y:=by
      refine ⟨_,_,rfl,rfl,?_⟩
      unfold Rn.part
      split
      · split
        · exact ha _
        · split
          · exact hb _
          · rfl
      · rfl
    obtain ⟨x,y,e1,e2,e3⟩:=h3
    rw [h1,h2,e1,e2,← Nat.add_assoc,← Nat.add_assoc,R.cap_tot ha hb s i l (c+x),e3]
    unfold capN;omega
theorem Rn.runF_cap (R:Rn):∀ (k:Nat) (s:Int) (i:Nat),R.runF k s i=capN (R.runU k s i)
  | 0,_,_=>rfl
  | k+1,s,i=>by
    unfold Rn.runF Rn.runU
    exact R.cap_tot (fun d=>R.runF_cap k d i) (fun d=>R.runF_cap k d (i+1)) s i R.mv _
def Rn.all (R:Rn) (n:Nat) (s:Int) (i:Nat):Nat:=R.runU ((R.L+1) * (n+1)) s i
theorem Rn.runs_all (R:Rn) (n:Nat) (s:Int) (i:Nat):R.runs n s i=capN (R.all n s i):=R.runF_cap _ s i
section
variable {R:Rn} {rk:Int→Nat} {n:Nat}
theorem Rn.Ok.steadyU (h:R.Ok rk n):∀ (k k':Nat) (s:Int) (i:Nat),R.mu rk n s i < k→R.mu rk n s i < k'→R.runU k s i=R.runU k' s i
  | 0,_,_,_,h1,_=>by omega
  | _,0,_,_,_,h2=>by omega
  | k+1,k'+1,s,i,h1,h2=>by
    unfold Rn.runU
    congr 1
    refine R.tot_congr fun v hv e=>?_
    unfold Rn.part
    split
    · rename_i hs
      have:=h.stay hv hs
      rw [e] at this
      exact h.steadyU k k' v.dst i (by omega) (by omega)
    · split
      · rename_i hg
        have:=h.goes hv hg.1
        rw [e] at this
        exact h.steadyU k k' v.dst (i+1) (by omega) (by omega)
      · rfl
theorem Rn.Ok.all_eq (h:R.Ok rk n) {s:Int} (h0:0≤s) (h1:s < n) (i:Nat):R.all n s i=R.base s i+R.tot (fun d=>R.all n d i) (fun d=>R.all n d (i+1)) s i R.mv:=by
  have hmu:=h.mu_lt h0 h1 i
  unfold Rn.all
  obtain ⟨k,hk⟩:∃ k,(R.L+1) * (n+1)=k+1:=⟨R.L * (n+1)+n,by rw [Nat.succ_mul];rfl⟩
  rw [hk] at hmu ⊢
  conv=>lhs;unfold Rn.runU
  congr 1
  refine R.tot_congr fun v hv e=>?_
  unfold Rn.part
  split
  · rename_i hs
    have:=h.stay hv hs
    rw [e] at this
    exact h.steadyU k (k+1) v.dst i (by omega) (by omega)
  · split
    · rename_i hg
      have:=h.goes hv hg.1
      rw [e] at this
      exact h.steadyU k (k+1) v.dst (i+1) (by omega) (by omega)
    · rfl
end
structure FitR (R:Rn) (E:List Pt) (F:Pt→Nat→Bool):Prop where
  free:∀ v i,v.elem = -1→R.st i v=true
  node:∀ v i p,0≤v.elem→E[v.elem.toNat]?=some p→i≤R.L→R.st i v=(p.kind==1&&F p i)
  edge:∀ v i p,0≤v.elem→E[v.elem.toNat]?=some p→i < R.L→R.go i v=(p.kind==2&&F p i)
def Rn.tt (R:Rn) (r:Int→Nat→Nat) (s:Int) (i:Nat) (l:List Mv):Nat:=R.tot (fun d=>r d i) (fun d=>r d (i+1)) s i l
theorem Rn.tt_app (R:Rn) (r:Int→Nat→Nat) (s:Int) (i:Nat) (l m:List Mv):R.tt r s i (l++m)=R.tt r s i l+R.tt r s i m:=R.tot_app _ _ _ _ _ _
theorem Rn.tt_none (R:Rn) (r:Int→Nat→Nat) (s:Int) (i:Nat):∀ l:List Mv,(∀ v∈l,v.src≠s)→R.tt r s i l=0
  | [],_=>rfl
  | v :: l,h=>by
    have:=R.tt_none r s i l fun x hx=>h x (List.mem_cons_of_mem _ hx)
    unfold Rn.tt Rn.tot at this ⊢
    rw [List.map_cons,List.sum_cons,this,if_neg (h v List.mem_cons_self)]
theorem Rn.tt_one (R:Rn) (r:Int→Nat→Nat) (s t e:Int) (i:Nat):R.tt r s i [⟨s,t,e⟩]=R.part (fun d=>r d i) (fun d=>r d (i+1)) i ⟨s,t,e⟩:=by
  unfold Rn.tt Rn.tot
  rw [List.map_cons,List.sum_cons,if_pos rfl];rfl
theorem FitR.one {R:Rn} {E:List Pt} {F:Pt→Nat→Bool} (h:FitR R E F) (r:Int→Nat→Nat) (s t:Int) (i:Nat):R.tt r s i [⟨s,t, -1⟩]=r t i:=by
  rw [R.tt_one]
  unfold Rn.part
  rw [if_pos (h.free _ i rfl)]
structure Laid (R:Rn) (r:Int→Nat→Nat) (s:Int) (m m':Mach) (V:Vec):Prop where
  st:m.states≤m'.states
  mv:∃ new,m'.moves=m.moves++new∧(∀ v∈new,v.src=s∨(m.states≤v.src∧v.src < m'.states))∧
    ((∀ q,m.states≤q→q < m'.states→ ∀ i,i≤R.L→r q i=R.tt r q i new)→ ∀ i,i≤R.L→R.tt r s i new=V i)
theorem zna {L:Nat} {f:Vec→Vec} (hL:Lin f) (h:Ahead L 1 f) {u w:Vec} (hu:∀ i,i≤L→u i=f u i+w i):∀ i,i≤L→u i=upV f 0 L w i:=by
  have hg:∀ i,i≤L→upV f 0 L w i=f (upV f 0 L w) i+w i:=fun i hi=>by
    rw [← zjV hL h 0 w hi L (L+1) (Nat.le_refl _) (by omega),← zgL hL w L]
    exact Nat.add_comm _ _
  have key:∀ (d i:Nat),i≤L→L - i=d→u i=upV f 0 L w i:=fun d=>by
    induction d using Nat.strongRecOn with
    | ind d ih =>
      intro i hi hd
      rw [hu i hi,hg i hi,h u (upV f 0 L w) i (fun j h1 h2=>ih (L - j) (by omega) j h2 rfl) hi]
  exact fun i hi=>key _ i hi rfl
theorem zp8 {R:Rn} {E:List Pt} {F:Pt→Nat→Bool} (hF:FitR R E F) (r:Int→Nat→Nat):∀ (p:Pt) (s t:Int) (m:Mach),shapeP p=true→starP p=true→rightP p=true→s < m.states→t < m.states→(layM p s t m).elems <+: E→
    Laid R r s m (layM p s t m) (backT R.L F p (r t)):=Pt.ind fun p ih s t m hs hst hrp hsl htl hE=>by
  have hsk:=zbz hs
  have htk:=zfb hst
  have hrk:=zaF hrp
  rcases zbQ hs with ⟨hk,hk0⟩ | ⟨hk,hne⟩ | ⟨hk,⟨k,hkk⟩,hm⟩
  · rw [zcx hk] at hE ⊢
    have hp:E[m.elems.length]?=some p:=by
      obtain ⟨r,hr⟩:=hE
      rw [← hr]
      simp [elM,mvM]
    refine ⟨Int.le_refl _,[⟨s,t,m.elems.length⟩],rfl,fun v hv=>?_,fun _ i hi=>?_⟩
    · obtain rfl:=List.mem_singleton.1 hv;exact .inl rfl
    · rw [R.tt_one]
      have h1:=hF.node ⟨s,t,m.elems.length⟩ i p (Int.natCast_nonneg _) (by rw [Int.toNat_natCast];exact hp) hi
      have h2:=hF.edge ⟨s,t,m.elems.length⟩ i p (Int.natCast_nonneg _) (by rw [Int.toNat_natCast];exact hp)
      unfold Rn.part
      rcases hk with hk|hk
      · rw [zdt hk]
        rw [hk] at h1 h2
        dsimp only
        cases hf:F p i with
        | true=>rw [if_pos (by rw [h1,hf];rfl),if_pos rfl]
        | false =>
          rw [if_neg (by rw [h1,hf];decide),if_neg (fun ⟨q1,q2⟩=>by rw [h2 q1] at q2;cases q2)]
          rfl
      · rw [zds hk]
        rw [hk] at h1 h2
        dsimp only
        rw [if_neg (by rw [h1];simp)]
        by_cases hlt:i < R.L
        · rw [h2 hlt]
          cases hf:F p i with
          | true=>rw [if_pos ⟨hlt,rfl⟩,if_pos ⟨hlt,rfl⟩]
          | false=>rw [if_neg (fun q=>by cases q.2),if_neg (fun q=>by cases q.2)]
        · rw [if_neg (fun q=>hlt q.1),if_neg (fun q=>hlt q.1)]
  · by_cases k3:p.kind=3
    · have hlen:0 < p.kids.length:=List.length_pos_iff.2 hne
      obtain ⟨k,hkl⟩:∃ k,p.kids[p.kids.length - 1]?=some k:=⟨_,List.getElem?_eq_getElem (by omega)⟩
      have hmem:=List.mem_of_getElem? hkl
      have hsp:p.kids=p.kids.take (p.kids.length - 1)++[k]:=by
        conv=>lhs;rw [← List.take_append_drop (p.kids.length - 1) p.kids]
        congr 1
        rw [List.drop_eq_getElem_cons (by omega),(List.getElem?_eq_some_iff.1 hkl).2,List.drop_eq_nil_of_le (by omega)]
      have key:∀ (l:List Pt),(∀ x∈l,x∈p.kids)→ ∀ (x:Int × Mach),x.1 < x.2.states→t < x.2.states→(layM k (l.foldl upP x).1 t (l.foldl upP x).2).elems <+: E→
          Laid R r x.1 x.2 (layM k (l.foldl upP x).1 t (l.foldl upP x).2) (l.foldr (fun k w=>backT R.L F k w) (backT R.L F k (r t))):=by
        intro l
        induction l with
        | nil =>
          intro _ x h1 h2 h3
          exact ih k hmem x.1 t x.2 (hsk k hmem) (htk k hmem) (hrk k hmem) h1 h2 h3
        | cons a l ihl =>
          intro hal x h1 h2 h3
          rw [List.foldl_cons] at h3 ⊢
          have ham:=hal a List.mem_cons_self
          have hpre:∀ (l:List Pt),(∀ x∈l,x∈p.kids)→ ∀ (x:Int × Mach),x.2.elems <+: (l.foldl upP x).2.elems:=by
            intro l
            induction l with
            | nil=>intro _ x;exact ⟨[],by simp⟩
            | cons b l ihb =>
              intro hb x
              rw [List.foldl_cons]
              refine List.IsPrefix.trans ?_ (ihb (fun y hy=>hb y (List.mem_cons_of_mem _ hy)) (upP x b))
              have:=(zdg b x.1 x.2.states (stM x.2) (hsk b (hb b List.mem_cons_self))).1
              exact ⟨elems b,this.symm⟩
          have hpa:(upP x a).2.elems <+: E:=by
            refine List.IsPrefix.trans (hpre l (fun y hy=>hal y (List.mem_cons_of_mem _ hy)) (upP x a)) (List.IsPrefix.trans ?_ h3)
            exact ⟨elems k,((zdg k _ t _ (hsk k hmem)).1).symm⟩
          obtain ⟨a1,new1,a2,a3,a4⟩:=ih a ham x.1 x.2.states (stM x.2) (hsk a ham) (htk a ham) (hrk a ham) (by show x.1 < x.2.states+1;omega) (by show x.2.states < x.2.states+1;omega) hpa
          have a1:x.2.states+1≤(upP x a).2.states:=a1
          obtain ⟨b1,new2,b2,b3,b4⟩:=ihl (fun y hy=>hal y (List.mem_cons_of_mem _ hy)) (upP x a) (by show x.2.states < _;omega) (by omega) h3
          have hx1:(upP x a).1=x.2.states:=rfl
          rw [hx1] at b3 b4
          have a2:(upP x a).2.moves=x.2.moves++new1:=a2
          have a3:∀ v∈new1,v.src=x.1∨(x.2.states+1≤v.src∧v.src < (upP x a).2.states):=a3
          refine ⟨by omega,new1++new2,by rw [b2,a2,List.append_assoc],fun v hv=>?_,fun hr i hi=>?_⟩
          · rcases List.mem_append.1 hv with hv|hv
            · rcases a3 v hv with h|h
              · exact .inl h
              · exact .inr (by omega)
            · rcases b3 v hv with h|h
              · exact .inr (by omega)
              · exact .inr (by omega)
          · have z1:∀ q,(upP x a).2.states≤q→ ∀ i,R.tt r q i new1=0:=fun q hq i=>R.tt_none r q i new1 fun v hv=>by rcases a3 v hv with h|h<;>omega
            have z2:∀ q,x.2.states < q→q < (upP x a).2.states→ ∀ i,R.tt r q i new2=0:=fun q h4 h5 i=>R.tt_none r q i new2 fun v hv=>by rcases b3 v hv with h|h<;>omega
            have z3:∀ i,R.tt r x.1 i new2=0:=fun i=>R.tt_none r x.1 i new2 fun v hv=>by rcases b3 v hv with h|h<;>omega
            have z4:∀ i,R.tt r x.2.states i new1=0:=fun i=>R.tt_none r _ i new1 fun v hv=>by rcases a3 v hv with h|h<;>omega
            have h5:=b4 fun q q1 q2 i hi=>by rw [hr q (by omega) q2 i hi,R.tt_app,z1 q q1 i,Nat.zero_add]
            have h6:∀ i,i≤R.L→r x.2.states i=l.foldr (fun k w=>backT R.L F k w) (backT R.L F k (r t)) i:=fun i hi=>by
              rw [hr x.2.states (Int.le_refl _) (by omega) i hi,R.tt_app,z4,Nat.zero_add,h5 i hi]
            have h7:=a4 (fun q q1 q2 i hi=>by
              have q1:x.2.states+1≤q:=q1
              have q2:q < (upP x a).2.states:=q2
              rw [hr q (by omega) (by omega) i hi,R.tt_app,z2 q (by omega) q2 i,Nat.add_zero]) i hi
            rw [R.tt_app,z3,Nat.add_zero,h7,List.foldr_cons]
            exact (zda a (hrk a ham)) _ _ i (fun j _ hj=>h6 j hj) hi
      rw [zdj k3 hkl] at hE ⊢
      have:=key (p.kids.take (p.kids.length - 1)) (fun y hy=>List.mem_of_mem_take hy) (s,m) hsl htl hE
      rw [zcu k3]
      conv=>arg 6;rw [hsp]
      rw [zfa]
      exact this
    · have k4:p.kind=4:=by omega
      rw [zde k4] at hE ⊢
      have hpre:∀ (l:List Pt),(∀ x∈l,x∈p.kids)→ ∀ (x:Mach),x.elems <+: (l.foldl (fun m k=>layM k s t m) x).elems:=by
        intro l
        induction l with
        | nil=>intro _ x;exact ⟨[],by simp⟩
        | cons b l ihb =>
          intro hb x
          rw [List.foldl_cons]
          refine List.IsPrefix.trans ?_ (ihb (fun y hy=>hb y (List.mem_cons_of_mem _ hy)) _)
          exact ⟨elems b,((zdg b s t x (hsk b (hb b List.mem_cons_self))).1).symm⟩
      have key:∀ (l:List Pt),(∀ x∈l,x∈p.kids)→ ∀ (x:Mach),s < x.states→t < x.states→(l.foldl (fun m k=>layM k s t m) x).elems <+: E→
          Laid R r s x (l.foldl (fun m k=>layM k s t m) x) (sumV (l.map fun k=>backT R.L F k (r t))):=by
        intro l
        induction l with
        | nil=>intro _ x _ _ _;exact ⟨Int.le_refl _,[],by simp,by simp,fun _ i _=>rfl⟩
        | cons a l ihl =>
          intro hal x h1 h2 h3
          rw [List.foldl_cons] at h3 ⊢
          have ham:=hal a List.mem_cons_self
          obtain ⟨a1,new1,a2,a3,a4⟩:=ih a ham s t x (hsk a ham) (htk a ham) (hrk a ham) h1 h2 (List.IsPrefix.trans (hpre l (fun y hy=>hal y (List.mem_cons_of_mem _ hy)) _) h3)
          obtain ⟨b1,new2,b2,b3,b4⟩:=ihl (fun y hy=>hal y (List.mem_cons_of_mem _ hy)) (layM a s t x) (by omega) (by omega) h3
          refine ⟨by omega,new1++new2,by rw [b2,a2,List.append_assoc],fun v hv=>?_,fun hr i hi=>?_⟩
          · rcases List.mem_append.1 hv with hv|hv
            · rcases a3 v hv with h|h
              · exact .inl h
              · exact .inr (by omega)
            · rcases b3 v hv with h|h
              · exact .inl h
              · exact .inr (by omega)
          · have z1:∀ q,(layM a s t x).states≤q→ ∀ i,R.tt r q i new1=0:=fun q hq i=>R.tt_none r q i new1 fun v hv=>by rcases a3 v hv with h|h<;>omega
            have z2:∀ q,x.states≤q→q < (layM a s t x).states→ ∀ i,R.tt r q i new2=0:=fun q h4 h5 i=>R.tt_none r q i new2 fun v hv=>by rcases b3 v hv with h|h<;>omega
            have h5:=a4 (fun q q1 q2 i hi=>by rw [hr q q1 (by omega) i hi,R.tt_app,z2 q q1 q2 i,Nat.add_zero]) i hi
            have h6:=b4 (fun q q1 q2 i hi=>by rw [hr q (by omega) q2 i hi,R.tt_app,z1 q q1 i,Nat.zero_add]) i hi
            rw [R.tt_app,h5,h6];rfl
      rw [zcv k4]
      exact key p.kids (fun _ h=>h) m hsl htl hE
  · have hmem:k∈p.kids:=by rw [hkk];exact List.mem_cons_self
    obtain ⟨hmin,hlow⟩:=zhz hst hk hkk
    rw [zcf hk hkk,hmin]
    rcases hm with hm|hm
    · rw [zdh hk hkk hm] at hE ⊢
      obtain ⟨a1,new,a2,a3,a4⟩:=ih k hmem s t (mvM s t (-1) m) (hsk k hmem) (htk k hmem) (hrk k hmem) hsl htl hE
      have a1:m.states≤(layM k s t (mvM s t (-1) m)).states:=a1
      have a2:(layM k s t (mvM s t (-1) m)).moves=(m.moves++[⟨s,t, -1⟩])++new:=a2
      refine ⟨a1,⟨s,t, -1⟩ :: new,by rw [a2,List.append_assoc];rfl,fun v hv=>?_,fun hr i hi=>?_⟩
      · rcases List.mem_cons.1 hv with rfl|hv
        · exact .inl rfl
        · exact a3 v hv
      · have e:∀ q i,R.tt r q i (⟨s,t, -1⟩ :: new)=R.tt r q i [⟨s,t, -1⟩]+R.tt r q i new:=fun q i=>R.tt_app r q i [_] new
        have z1:∀ q,m.states≤q→ ∀ i,R.tt r q i [⟨s,t, -1⟩]=0:=fun q hq i=>R.tt_none r q i _ fun v hv=>by obtain rfl:=List.mem_singleton.1 hv;show s≠q;omega
        have h5:=a4 (fun q q1 q2 i hi=>by
          have q1:m.states≤q:=q1
          rw [hr q q1 q2 i hi,e,z1 q q1,Nat.zero_add]) i hi
        rw [e,hF.one,h5]
        have hmo:moreN R.L p=1:=by unfold moreN;rw [hm,hmin,if_neg (by decide)];rfl
        rw [hmo];rfl
    · rw [zct hk hkk (by omega)] at hE ⊢
      obtain ⟨a1,new,a2,a3,a4⟩:=ih k hmem m.states m.states (mvM s m.states (-1) (stM m)) (hsk k hmem) (htk k hmem) (hrk k hmem) (by show m.states < m.states+1;omega) (by show m.states < m.states+1;omega) hE
      have a1:m.states+1≤(layM k m.states m.states (mvM s m.states (-1) (stM m))).states:=a1
      have a2:(layM k m.states m.states (mvM s m.states (-1) (stM m))).moves=(m.moves++[⟨s,m.states, -1⟩])++new:=a2
      have a3:∀ v∈new,v.src=m.states∨(m.states+1≤v.src∧v.src < (layM k m.states m.states (mvM s m.states (-1) (stM m))).states):=a3
      have ha:=zda (L:=R.L) (F:=F) k (hrk k hmem)
      unfold lowD at ha
      rw [if_pos hlow] at ha
      refine ⟨by show m.states≤(layM k m.states m.states (mvM s m.states (-1) (stM m))).states;omega,⟨s,m.states, -1⟩ :: (new++[⟨m.states,t, -1⟩]),by show (layM k m.states m.states (mvM s m.states (-1) (stM m))).moves++[_]=_;rw [a2];simp,fun v hv=>?_,fun hr i hi=>?_⟩
      · show v.src=s∨(m.states≤v.src∧v.src < (layM k m.states m.states (mvM s m.states (-1) (stM m))).states)
        rcases List.mem_cons.1 hv with rfl|hv
        · exact .inl rfl
        · rcases List.mem_append.1 hv with hv|hv
          · rcases a3 v hv with h|h<;>exact .inr (by omega)
          · obtain rfl:=List.mem_singleton.1 hv;exact .inr ⟨Int.le_refl _,by show m.states < _;omega⟩
      · have hr:∀ q,m.states≤q→q < (layM k m.states m.states (mvM s m.states (-1) (stM m))).states→ ∀ i,i≤R.L→r q i=R.tt r q i (⟨s,m.states, -1⟩ :: (new++[⟨m.states,t, -1⟩])):=hr
        have e:∀ q i,R.tt r q i (⟨s,m.states, -1⟩ :: (new++[⟨m.states,t, -1⟩]))=R.tt r q i [⟨s,m.states, -1⟩]+(R.tt r q i new+R.tt r q i [⟨m.states,t, -1⟩]):=fun q i=>by
          rw [← R.tt_app];exact R.tt_app r q i [_] _
        have z1:∀ q,m.states≤q→ ∀ i,R.tt r q i [⟨s,m.states, -1⟩]=0:=fun q hq i=>R.tt_none r q i _ fun v hv=>by obtain rfl:=List.mem_singleton.1 hv;show s≠q;omega
        have z2:∀ q,q≠m.states→ ∀ i,R.tt r q i [⟨m.states,t, -1⟩]=0:=fun q hq i=>R.tt_none r q i _ fun v hv=>by obtain rfl:=List.mem_singleton.1 hv;exact fun h=>hq h.symm
        have z3:∀ i,R.tt r s i new=0:=fun i=>R.tt_none r s i new fun v hv=>by rcases a3 v hv with h|h<;>omega
        have h5:=a4 fun q q1 q2 i hi=>by
          have q1:m.states+1≤q:=q1
          rw [hr q (by omega) q2 i hi,e,z1 q (by omega),z2 q (by omega),Nat.zero_add,Nat.add_zero]
        have h6:∀ i,i≤R.L→r m.states i=backT R.L F k (r m.states) i+r t i:=fun i hi=>by
          conv=>lhs;rw [hr m.states (Int.le_refl _) (by omega) i hi,e,z1 m.states (Int.le_refl _),Nat.zero_add,h5 i hi,hF.one]
        rw [e,hF.one,z3,z2 s (by omega),Nat.add_zero]
        have hmo:moreN R.L p=R.L:=by unfold moreN;rw [if_pos (by omega)]
        rw [hmo]
        exact zna (zen k) ha h6 i hi
theorem zot {R:Rn} {rk:Int→Nat} {n:Nat} {F:Pt→Nat→Bool} {p:Pt} (hs:shapeP p=true) (hst:starP p=true) (hrp:rightP p=true) (hmv:R.mv=(buildM p).moves) (hn:(buildM p).states=n) (hok:R.Ok rk n) (hF:FitR R (buildM p).elems F):R.all n 0 0=backT R.L F p (endV R.L) 0:=by
  obtain ⟨h1,new,h2,h3,h4⟩:=zp8 hF (R.all n) p 0 1 ⟨[],[],2⟩ hs hst hrp (by decide) (by decide) ⟨[],List.append_nil _⟩
  have h2:(buildM p).moves=[]++new:=h2
  rw [List.nil_append] at h2
  have h3:∀ v∈new,v.src=0∨((2:Int)≤v.src∧v.src < (buildM p).states):=h3
  have h1:(2:Int)≤(buildM p).states:=h1
  have hall:∀ (q:Int) (i:Nat),0≤q→q < n→R.all n q i=R.base q i+R.tt (R.all n) q i new:=fun q i q0 q1=>by
    rw [hok.all_eq q0 q1 i,hmv,h2];rfl
  have h5:=h4 (fun q q1 q2 i hi=>by
    have q1:(2:Int)≤q:=q1
    have q2:q < (buildM p).states:=q2
    rw [hall q i (by omega) (by omega)]
    unfold Rn.base
    rw [if_neg (fun h=>by omega),Nat.zero_add]) 0 (Nat.zero_le _)
  rw [hall 0 0 (by decide) (by omega),h5]
  unfold Rn.base
  rw [if_neg (fun h=>by omega),Nat.zero_add]
  refine (zda p hrp) _ _ 0 (fun j _ hj=>?_) (Nat.zero_le _)
  rw [hall 1 j (by decide) (by omega),R.tt_none _ _ _ new fun v hv=>by rcases h3 v hv with h|h<;>omega,Nat.add_zero]
  unfold Rn.base endV
  simp
end Go.Proofs.YtiplihojmfbjkaaGreat
