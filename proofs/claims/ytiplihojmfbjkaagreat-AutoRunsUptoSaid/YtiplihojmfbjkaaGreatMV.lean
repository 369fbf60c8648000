/- Walks: which elements fit,a table of them. -/
import Derived.Test.YtiplihojmfbjkaaGreatWF
import Derived.Test.YtiplihojmfbjkaaGreatWO
import Derived.Test.YtiplihojmfbjkaaGreatGD
import Derived.Test.YtiplihojmfbjkaaGreatQD
import Derived.Test.YtiplihojmfbjkaaGreatQE
import Derived.Test.YtiplihojmfbjkaaGreatMC
import Derived.Test.YtiplihojmfbjkaaGreatWM
import Derived.MapKept
import Derived.Carry
set_option maxRecDepth 100000
set_option maxHeartbeats 16000000
namespace Go.Proofs.YtiplihojmfbjkaaGreat
open Go.RowKit
def encLp (x:List ByteArray × List Pr):List D:=[.sl (x.1.map encS),.sl (x.2.map encPr)]
def lpsG (g:Gr) (kind:Int):List (List ByteArray × List Pr):=if kind=2 then g.edges.map fun e=>(e.labels,e.props) else g.nodes.map fun n=>(n.labels,n.props)
theorem zil (l:List (List ByteArray × List Pr)):sized 2 (l.map encLp)=true:=by unfold sized;rw [List.all_map];exact List.all_eq_true.2 fun _ _=>rfl
theorem zkv (g:Gr) (kind:Int) (hn:g.nodes.length≤1000) (he:g.edges.length≤1000):CallsV Tryz.prog 77 [.dat (encG g),vI kind] (.val (vL ((lpsG g kind).map encLp))):=by
  have hln:(g.nodes.map encNd).length=g.nodes.length:=List.length_map _
  have hle:(g.edges.map encEd).length=g.edges.length:=List.length_map _
  unfold encG lpsG
  by_cases hk:kind=2
  · rw [if_pos hk]
    (refine zaa (Ty:=Ty) zad Tryz.func77 rfl rfl rfl fun w0 S0=>?_;refine enA ?_)
    repeat' (first|refine nx ?_|(refine nx2 ?_ ?_<;>intro hb))
    refine uNil 5 300 137 2 ?_
    refine zay (α:=Nat) (fun i=>[(5,.one (.own 300 ((((g.edges.map fun e=>(e.labels,e.props))).take i).map encLp))),(13,vL (g.edges.map encEd)),(14,vI ((g.edges.map encEd).length:Int)),(15,vI i)]) (fun _=>[(300,.tok 137 2)]) (fun i=>i≤g.edges.length) (fun i=>g.edges.length - i) 0 (Nat.zero_le _) subA subA ?_
    intro i hi
    have hz:=zil (((g.edges.map fun e=>(e.labels,e.props))).take i)
    have hl2:((((g.edges.map fun e=>(e.labels,e.props))).take i).map encLp).length≤1000:=by simp;omega
    by_cases hlt:i < g.edges.length
    · obtain ⟨x,hx⟩:∃ x,g.edges[i]?=some x:=⟨_,List.getElem?_eq_getElem hlt⟩
      have hx2:((g.edges.map fun e=>(e.labels,e.props)))[i]?=some (x.labels,x.props):=by rw [List.getElem?_map,hx];rfl
      have hnx:(((g.edges.map fun e=>(e.labels,e.props))).take i).map encLp++[encLp (x.labels,x.props)]=(((g.edges.map fun e=>(e.labels,e.props))).take (i+1)).map encLp:=(zcw hx2).symm
      repeat' (first|refine uAk ?_ (hr':=hnx)|refine nx ?_|(refine nx2 ?_ ?_<;>intro hb))
      exact ⟨i+1,by omega,by omega,subA,subA⟩
    · obtain rfl:i=g.edges.length:=by omega
      have hall:((g.edges.map fun e=>(e.labels,e.props))).take g.edges.length=(g.edges.map fun e=>(e.labels,e.props)):=List.take_of_length_le (by rw [List.length_map];exact Nat.le_refl _)
      rw [hall]
      repeat' (first|refine nx ?_|(refine nx2 ?_ ?_<;>intro hb))
      exact zab (by rfl) rfl
  · rw [if_neg hk]
    (refine zaa (Ty:=Ty) zad Tryz.func77 rfl rfl rfl fun w0 S0=>?_;refine enA ?_)
    repeat' (first|refine nx ?_|(refine nx2 ?_ ?_<;>intro hb))
    refine uNil 5 300 137 2 ?_
    refine zay (α:=Nat) (fun i=>[(5,.one (.own 300 ((((g.nodes.map fun n=>(n.labels,n.props))).take i).map encLp))),(30,vL (g.nodes.map encNd)),(31,vI ((g.nodes.map encNd).length:Int)),(32,vI i)]) (fun _=>[(300,.tok 137 2)]) (fun i=>i≤g.nodes.length) (fun i=>g.nodes.length - i) 0 (Nat.zero_le _) subA subA ?_
    intro i hi
    have hz:=zil (((g.nodes.map fun n=>(n.labels,n.props))).take i)
    have hl2:((((g.nodes.map fun n=>(n.labels,n.props))).take i).map encLp).length≤1000:=by simp;omega
    by_cases hlt:i < g.nodes.length
    · obtain ⟨x,hx⟩:∃ x,g.nodes[i]?=some x:=⟨_,List.getElem?_eq_getElem hlt⟩
      have hx2:((g.nodes.map fun n=>(n.labels,n.props)))[i]?=some (x.labels,x.props):=by rw [List.getElem?_map,hx];rfl
      have hnx:(((g.nodes.map fun n=>(n.labels,n.props))).take i).map encLp++[encLp (x.labels,x.props)]=(((g.nodes.map fun n=>(n.labels,n.props))).take (i+1)).map encLp:=(zcw hx2).symm
      repeat' (first|refine uAk ?_ (hr':=hnx)|refine nx ?_|(refine nx2 ?_ ?_<;>intro hb))
      exact ⟨i+1,by omega,by omega,subA,subA⟩
    · obtain rfl:i=g.nodes.length:=by omega
      have hall:((g.nodes.map fun n=>(n.labels,n.props))).take g.nodes.length=(g.nodes.map fun n=>(n.labels,n.props)):=List.take_of_length_le (by rw [List.length_map];exact Nat.le_refl _)
      rw [hall]
      repeat' (first|refine nx ?_|(refine nx2 ?_ ?_<;>intro hb))
      exact zab (by rfl) rfl
def fitE (x:Pt) (y:List ByteArray × List Pr):Bool × Int:=if x.label.kind=0∨hasL y.1 x.label=true then holdsR y.2 x.wher else (false,0)
def errT (err bad:Int):Int:=if bad=7∧err=0 then 7 else if bad≠0∧bad≠7 then 4 else err
def rowT (g:Gr) (x:Pt):List (Bool × Int):=(lpsG g x.kind).map (fitE x)
def rowE (g:Gr) (err:Int) (x:Pt):Int:=((rowT g x).map (·.2)).foldl errT err
def tabF (g:Gr) (l:List Pt):List (List Bool):=l.map fun x=>(rowT g x).map (·.1)
def tabE (g:Gr) (l:List Pt):Int:=l.foldl (rowE g) 0
def tabR (g:Gr) (l:List Pt):List (List Bool) × Int:=if tabE g l=0 then (tabF g l,0) else ([],tabE g l)
theorem zlM (l:List Bool):sized 1 (l.map encB)=true:=by unfold sized;rw [List.all_map];exact List.all_eq_true.2 fun _ _=>rfl
theorem zlE (l:List (List Bool)):sized 1 (l.map encR)=true:=by unfold sized;rw [List.all_map];exact List.all_eq_true.2 fun _ _=>rfl
theorem zjH (g:Gr) (p:Pt) (hn:g.nodes.length≤1000) (he:g.edges.length≤1000) (hel:(elems p).length≤1000000):CallsV Tryz.prog 33 [.dat (encG g),.dat (encP p)] (.val (.tup [vL ((tabR g (elems p)).1.map encR),vI (tabR g (elems p)).2])):=by
  have hE:=zjz p hel
  have hll:((elems p).map encP).length=(elems p).length:=List.length_map _
  have hEl:=fun k=>zkv g k hn he
  unfold encG at hEl ⊢
  (refine zaa (Ty:=Ty) zad Tryz.func33 rfl rfl rfl fun w0 S0=>?_;refine enA ?_)
  repeat' (first|refine uC (hE) ?_|refine nx ?_|(refine nx2 ?_ ?_<;>intro hb))
  refine uNil 6 300 71 1 ?_
  refine zay (α:=Nat) (fun i=>[(2,.one (.po 2 0)),(6,.one (.own 300 ((tabF g ((elems p).take i)).map encR))),(7,vI (tabE g ((elems p).take i))),(16,vL ((elems p).map encP)),(17,vI (((elems p).map encP).length:Int)),(18,vI i)]) (fun _=>[(2,.box 25 [.sl (g.nodes.map encNd),.sl (g.edges.map encEd)]),(300,.tok 71 1)]) (fun i=>i≤(elems p).length) (fun i=>(elems p).length - i) 0 (Nat.zero_le _) subA subA ?_
  intro i hi
  by_cases hlt:i < (elems p).length
  · obtain ⟨x,hx⟩:∃ x,(elems p)[i]?=some x:=⟨_,List.getElem?_eq_getElem hlt⟩
    have hEx:=hEl x.kind
    have hzf:=zlE (tabF g ((elems p).take i))
    have hfl:(tabF g ((elems p).take i)).length≤1000000:=by unfold tabF;simp;omega
    have hnf:tabF g ((elems p).take (i+1))=tabF g ((elems p).take i)++[(rowT g x).map (·.1)]:=by unfold tabF;rw [zcw hx]
    have hne:tabE g ((elems p).take (i+1))=rowE g (tabE g ((elems p).take i)) x:=by unfold tabE;rw [zbe hx]
    have hnr:(tabF g ((elems p).take i)).map encR++[encR ((rowT g x).map (·.1))]=(tabF g ((elems p).take (i+1))).map encR:=by rw [hnf,List.map_append];rfl
    generalize tabF g ((elems p).take i)=fit at hzf hfl hnr ⊢
    generalize tabE g ((elems p).take i)=err at hne ⊢
    generalize hys:lpsG g x.kind=ys at hEx
    have hyl:ys.length≤1000:=by rw [← hys];unfold lpsG;split<;>(rw [List.length_map];assumption)
    have hym:(ys.map encLp).length=ys.length:=List.length_map _
    have hrow:rowT g x=ys.map (fitE x):=by unfold rowT;rw [hys]
    repeat' (first|refine uC (hEx) ?_|refine nx ?_|(refine nx2 ?_ ?_<;>intro hb))
    refine zay (α:=Nat) (fun k=>[(2,.one (.po 2 0)),(6,.one (.own 300 (fit.map encR))),(7,vI ((((ys.map (fitE x)).take k).map (·.2)).foldl errT err)),(9,.one (.po 9 0)),(10,.one (.own 22 ((((ys.map (fitE x)).take k).map (·.1)).map encB))),(16,vL ((elems p).map encP)),(17,vI (((elems p).map encP).length:Int)),(18,vI i),(26,vL (ys.map encLp)),(27,vI ((ys.map encLp).length:Int)),(28,vI k)]) (fun _=>[(2,.box 25 [.sl (g.nodes.map encNd),.sl (g.edges.map encEd)]),(300,.tok 71 1),(9,.box 34 (encP x)),(22,.tok 4 1)]) (fun k=>k≤ys.length) (fun k=>ys.length - k) 0 (Nat.zero_le _) subA subA ?_
    intro k hk
    by_cases hkt:k < ys.length
    · obtain ⟨y,hy⟩:∃ y,ys[k]?=some y:=⟨_,List.getElem?_eq_getElem hkt⟩
      have hy2:(ys.map (fitE x))[k]?=some (fitE x y):=by rw [List.getElem?_map,hy];rfl
      have hHa:=zpE y.1 x.label
      have hHo:=zn5 y.2 x.wher
      have hn1:(((ys.map (fitE x)).take (k+1)).map (·.1))=(((ys.map (fitE x)).take k).map (·.1))++[(fitE x y).1]:=zcw hy2
      have hn2:(((ys.map (fitE x)).take (k+1)).map (·.2)).foldl errT err=errT ((((ys.map (fitE x)).take k).map (·.2)).foldl errT err) (fitE x y).2:=by
        rw [zcw hy2,List.foldl_append];rfl
      have hzr:=zlM (((ys.map (fitE x)).take k).map (·.1))
      have hrl:(((ys.map (fitE x)).take k).map (·.1)).length≤1000:=by simp;omega
      have hap:∀ b:Bool,(fitE x y).1=b→(((ys.map (fitE x)).take k).map (·.1)).map encB++[encB b]=(((ys.map (fitE x)).take (k+1)).map (·.1)).map encB:=fun b hb=>by rw [hn1,List.map_append,hb];rfl
      generalize (((ys.map (fitE x)).take k).map (·.2)).foldl errT err=er at hn2 ⊢
      generalize (((ys.map (fitE x)).take k).map (·.1))=row at hzr hrl hap ⊢
      obtain ⟨ls,ps⟩:=y
      dsimp only at hHa hHo
      cases hlab:decide (x.label.kind=0) || hasL ls x.label with
      | false =>
        rw [Bool.or_eq_false_iff,decide_eq_false_iff_not] at hlab
        obtain ⟨hl1,hl2⟩:=hlab
        rw [hl2] at hHa
        have hfe:fitE x (ls,ps)=(false,0):=by unfold fitE;rw [if_neg (fun h=>h.elim hl1 fun h=>by rw [hl2] at h;cases h)]
        have hap1:=hap false (by rw [hfe])
        have hn3:(((ys.map (fitE x)).take (k+1)).map (·.2)).foldl errT err=er:=by rw [hn2,hfe];unfold errT;simp
        repeat' (first|(refine isRL ?_;first|refine uAk ?_ (hr':=hap1)|refine uC (hHa) ?_)|refine nx ?_|(refine nx2 ?_ ?_<;>intro hb))
        exact ⟨k+1,by omega,by omega,(by simp only [hn3];exact subA),subA⟩
      | true =>
        have hfe:fitE x (ls,ps)=holdsR ps x.wher:=by
          unfold fitE
          rw [if_pos]
          rw [Bool.or_eq_true,decide_eq_true_eq] at hlab
          exact hlab
        rw [hfe] at hn2 hap
        generalize holdsR ps x.wher=r at hHo hn2 hap
        obtain ⟨ok,bad⟩:=r
        dsimp only at hHo hn2 hap
        have hap1:=hap ok rfl
        have hcase:(bad=7∧er=0)∨(bad=7∧er≠0)∨(bad≠7∧bad≠0)∨bad=0:=by omega
        have hl:x.label.kind=0∨(x.label.kind≠0∧hasL ls x.label=true):=by
          rw [Bool.or_eq_true,decide_eq_true_eq] at hlab
          by_cases h:x.label.kind=0
          · exact .inl h
          · exact .inr ⟨h,hlab.resolve_left h⟩
        rcases hcase with ⟨c1,c2⟩ | ⟨c1,c2⟩ | ⟨c1,c2⟩|c1
        all_goals rcases hl with hl1 | ⟨hl1,hl2⟩
        all_goals
          first|rw [hl2] at hHa|skip
          first|have hn3:(((ys.map (fitE x)).take (k+1)).map (·.2)).foldl errT err=7:=by rw [hn2];unfold errT;rw [if_pos ⟨c1,c2⟩]
                | have hn3:(((ys.map (fitE x)).take (k+1)).map (·.2)).foldl errT err=er:=by rw [hn2];unfold errT;rw [if_neg (by omega),if_neg (by omega)]
                | have hn3:(((ys.map (fitE x)).take (k+1)).map (·.2)).foldl errT err=4:=by rw [hn2];unfold errT;rw [if_neg (by omega),if_pos (by omega)]
          repeat' (first|(refine isRL ?_;first|refine uAk ?_ (hr':=hap1)|(refine isCl ?_;first|refine uC (hHa) ?_|refine uC (hHo) ?_))|refine nx ?_|(refine nx2 ?_ ?_<;>intro hb))
          exact ⟨k+1,by omega,by omega,(by simp only [hn3];exact subA),subA⟩
    · obtain rfl:k=ys.length:=by omega
      have hall:(ys.map (fitE x)).take ys.length=ys.map (fitE x):=List.take_of_length_le (by rw [List.length_map];exact Nat.le_refl _)
      rw [hall,← hrow]
      have hne2:tabE g ((elems p).take (i+1))=((rowT g x).map (·.2)).foldl errT err:=hne
      repeat' (first|refine uAk ?_ (hr':=hnr)|refine nx ?_|(refine nx2 ?_ ?_<;>intro hb))
      exact ⟨i+1,by omega,by omega,(by simp only [hne2];exact subA),subA⟩
  · obtain rfl:i=(elems p).length:=by omega
    rw [List.take_length]
    unfold tabR
    by_cases h0:tabE g (elems p)=0
    · rw [if_pos h0]
      repeat' (first|refine nx ?_|(refine nx2 ?_ ?_<;>intro hb))
      exact zab (by rfl) rfl
    · rw [if_neg h0]
      repeat' (first|refine nx ?_|(refine nx2 ?_ ?_<;>intro hb))
      exact zab (by rfl) rfl
end Go.Proofs.YtiplihojmfbjkaaGreat
namespace Go.Proofs.YtiplihojmfbjkaaGreat
open Go.RowKit
open Classical in
noncomputable def insM {α:Type} (k:Value) (x:α):List (Value × α)→List (Value × α)
  | []=>[(k,x)]
  | e :: es=>if e.1=k then (k,x) :: es else e :: insM k x es
theorem ziE {α:Type} {k:Value} {x:α}:∀ {es:List (Value × α)},(∀ p∈es,p.1≠k)→insM k x es=es++[(k,x)]
  | [],_=>by rw [insM];rfl
  | e :: es,h=>by
    rw [insM,if_neg (h e (by simp)),ziE fun p hp=>h p (by simp [hp])];rfl
theorem ziC {α:Type} {k:Value} {x:α}:∀ {es:List (Value × α)} {j:Nat} {p:Value × α},es[j]?=some p→p.1=k→(∀ j' q,j' < j→es[j']?=some q→q.1≠k)→insM k x es=es.set j (k,x)
  | [],j,p,h,_,_=>by simp at h
  | e :: es,0,p,h,hk,_=>by
    simp only [List.getElem?_cons_zero,Option.some.injEq] at h
    rw [insM,if_pos (by rw [h];exact hk)];rfl
  | e :: es,j+1,p,h,hk,hf=>by
    rw [insM,if_neg (hf 0 e (by omega) rfl),ziC (j:=j) (by simpa using h) hk fun j' q hj hq=>hf (j'+1) q (by omega) (by simpa using hq)];rfl
theorem zhR {α:Type} {k:Value} {x:α}:∀ {es:List (Value × α)} {p:Value × α},p∈insM k x es→p=(k,x)∨p∈es
  | [],p,h=>by rw [insM] at h;exact .inl (by simpa using h)
  | e :: es,p,h=>by
    rw [insM] at h
    split at h
    · rcases List.mem_cons.1 h with h|h
      · exact .inl h
      · exact .inr (by simp [h])
    · rcases List.mem_cons.1 h with h|h
      · exact .inr (by simp [h])
      · rcases zhR h with h|h
        · exact .inl h
        · exact .inr (by simp [h])
theorem zgt {d:TypeDesc} {k:Value} (hk:MapKept.IsKey d k):∀ (l:List MapEntry) (i:Nat),(∀ x∈l,MapKept.IsKey d x.key)→
    (Instr.findNow d k l i=some none∧ ∀ x∈l,x.key≠k)∨ ∃ j e,Instr.findNow d k l i=some (some (i+j,e.val))∧l[j]?=some e∧e.key=k∧ ∀ j' q,j' < j→l[j']?=some q→q.key≠k
  | [],_,_=>.inl ⟨rfl,by simp⟩
  | e :: es,i,h=>by
    obtain ⟨r,hr,hiff⟩:=MapKept.sameNow_of_keys hk (h e (.head _))
    cases r with
    | true=>exact .inr ⟨0,e,by simp [Instr.findNow,hr],rfl,(hiff.1 rfl).symm,fun j' q hj=>absurd hj (by omega)⟩
    | false =>
      have hne:e.key≠k:=fun q=>by have:=hiff.2 q.symm;cases this
      rcases zgt hk es (i+1) (fun x hx=>h x (.tail _ hx)) with ⟨h1,h2⟩ | ⟨j,e',h1,h2,h3,h4⟩
      · exact .inl ⟨by simp [Instr.findNow,hr,h1],fun x hx=>by
          cases hx with
          | head=>exact hne
          | tail _ hx=>exact h2 x hx⟩
      · refine .inr ⟨j+1,e',by simp [Instr.findNow,hr,h1];omega,by simpa using h2,h3,fun j' q hj hq=>?_⟩
        cases j' with
        | zero=>simp only [List.getElem?_cons_zero,Option.some.injEq] at hq;subst hq;exact hne
        | succ j'=>exact h4 j' q (by omega) (by simpa using hq)
def MapR (S:Nat→Nat→Prop) (w:World) (es:List (Value × VV)) (ms:List MapEntry):Prop:=ms.length=es.length∧ ∀ (j:Nat) (p:Value × VV),es[j]?=some p→ ∃ m,ms[j]?=some m∧m.key=p.1∧ ∀ (γ:Nat→Nat) (T:Nat→Value),RV γ T S w p.2 m.val
theorem MapR.at {S:Nat→Nat→Prop} {w:World} {es:List (Value × VV)} {ms:List MapEntry} (h:MapR S w es ms) {j:Nat} {m:MapEntry} (hm:ms[j]?=some m):∃ p,es[j]?=some p∧m.key=p.1∧ ∀ (γ:Nat→Nat) (T:Nat→Value),RV γ T S w p.2 m.val:=by
  have hlt:j < es.length:=by rw [← h.1];exact (List.getElem?_eq_some_iff.1 hm).1
  obtain ⟨m',h1,h2,h3⟩:=h.2 j _ (List.getElem?_eq_getElem hlt)
  rw [hm] at h1;injection h1 with h1;subst h1
  exact ⟨_,List.getElem?_eq_getElem hlt,h2,h3⟩
theorem zkN {P:Program} {w:World} {S:Nat→Nat→Prop} {r:Nat} {ms:List MapEntry} {clock:Nat} {mty kt et:TypeId} {d:TypeDesc} {key value:Value} {es:List (Value × VV)} {x:VV} (hm:P.underlying mty=some (.map kt et)) (hd:P.underlying kt=some d) (hb:w.heap[r]?=some (.map ms.toArray clock))
    (hR:MapR S w es ms) (hks:∀ p∈es,MapKept.IsKey d p.1) (hk:MapKept.IsKey d key) (hx:∀ (γ:Nat→Nat) (T:Nat→Value),RV γ T S w x value) :
    ∃ (ms':List MapEntry) (clock':Nat),(Instr.mapUpdate mty (.map (some r)) key value).run P w=.ok () { w with heap:=w.heap.setIfInBounds r (.map ms'.toArray clock') }∧MapR S w (insM key x es) ms':=by
  have hks':∀ m∈ms,MapKept.IsKey d m.key:=fun m hm=>by
    obtain ⟨j,hj⟩:=List.mem_iff_getElem?.1 hm
    obtain ⟨p,h1,h2,_⟩:=hR.at hj
    rw [h2];exact hks p (List.mem_of_getElem? h1)
  rcases zgt hk ms 0 hks' with ⟨h1,h2⟩ | ⟨j,e,h1,h2,h3,h4⟩
  · refine ⟨ms++[{ key:=key,val:=value,born:=clock }],clock+1,?_,?_⟩
    · simp [Instr.mapUpdate,run_underlying hm,MapKept.run_getObj_map hb,MapKept.run_checkKey hd hk,MapKept.run_findKey hd h1,MapKept.run_setObj_map _ hb,Result.andThen]
    · have hno:∀ p∈es,p.1≠key:=fun p hp e=>by
        obtain ⟨j,hj⟩:=List.mem_iff_getElem?.1 hp
        obtain ⟨m,g1,g2,_⟩:=hR.2 j p hj
        exact h2 m (List.mem_of_getElem? g1) (g2.trans e)
      rw [ziE hno]
      refine ⟨by simp [hR.1],fun i p hp=>?_⟩
      by_cases hi:i < es.length
      · rw [List.getElem?_append_left hi] at hp
        rw [List.getElem?_append_left (by rw [hR.1];exact hi)]
        exact hR.2 i p hp
      · rw [List.getElem?_append_right (by omega)] at hp
        rw [List.getElem?_append_right (by rw [hR.1];omega),hR.1]
        obtain ⟨i',hi'⟩:∃ i',i - es.length=i':=⟨_,rfl⟩
        rw [hi'] at hp ⊢
        cases i' with
        | zero=>simp only [List.getElem?_cons_zero,Option.some.injEq] at hp;subst hp;exact ⟨_,rfl,rfl,hx⟩
        | succ i'=>simp at hp
  · have hj:ms.toArray[j]?=some e:=by simpa using h2
    refine ⟨ms.set j { e with key:=key,val:=value },clock,?_,?_⟩
    · have hmod:(ms.modify j fun e=>{ e with key:=key,val:=value })=ms.set j { e with key:=key,val:=value }:=by
        apply List.ext_getElem?
        intro i
        rw [List.getElem?_modify,List.getElem?_set]
        by_cases hi:j=i
        · subst hi
          obtain ⟨h5,h6⟩:=List.getElem?_eq_some_iff.1 h2
          simp [h5,h6]
        · simp [hi]
      simp [Instr.mapUpdate,run_underlying hm,MapKept.run_getObj_map hb,MapKept.run_checkKey hd hk,MapKept.run_findKey hd h1,h2,h3,MapKept.run_keyThatStays hk,MapKept.run_setObj_map _ hb,Result.andThen]
      rw [hmod]
    · obtain ⟨p,g1,g2,_⟩:=hR.at h2
      rw [ziC (j:=j) g1 (by rw [← g2];exact h3) fun j' q hj' hq=>by
        obtain ⟨m,q1,q2,_⟩:=hR.2 j' q hq
        rw [← q2];exact h4 j' m hj' q1]
      refine ⟨by simp [hR.1],fun i q hq=>?_⟩
      rw [List.getElem?_set] at hq
      rw [List.getElem?_set]
      by_cases hi:j=i
      · rw [if_pos hi] at hq
        rw [if_pos hi]
        have hlt:j < es.length:=(List.getElem?_eq_some_iff.1 g1).1
        rw [if_pos (by omega)] at hq
        rw [if_pos (by rw [hR.1];omega)]
        injection hq with hq;subst hq
        exact ⟨_,rfl,rfl,hx⟩
      · rw [if_neg hi] at hq
        rw [if_neg hi]
        exact hR.2 i q hq
def rawV:VV→Bool
  | .one (.d _)=>true
  | .dat _=>true
  | _=>false
theorem zfP {γ γ':Nat→Nat} {T T':Nat→Value} {S:Nat→Nat→Prop} {w:World} {x:VV} {v:Value} (hr:rawV x=true) (h:RV γ T S w x v):RV γ' T' S w x v:=by
  cases x with
  | one c=>cases c with
    | d y=>cases h with|one h=>exact .one h
    | _=>cases hr
  | dat cs=>cases h with|dat h=>exact .dat h
  | _=>cases hr
section
variable {X:Ctx} {γ:Nat→Nat} {T:Nat→Value} {S:Nat→Nat→Prop} {w:World} {fr:Fr} {σ:Obs} {ops:Array Oper} {o:Oper} {rest:List Oper} {Q:Fr→Obs→Prop}
theorem Rel.allocO {a:Act} (k:Nat) (h:Rel X γ T S w fr σ a) (obj:Obj) (ob:Ob)
    (ho:∀ γ',(∀ j,j≠k→γ' j=γ j)→γ' k=w.heap.size→RO X γ' T S (w.alloc obj) k ob) (hf:∀ γ' b,fp γ' T k ob b→b=γ' k) :
    Rel X (setK γ k w.heap.size) T S (w.alloc obj) (stripF k fr) ((k,ob) :: stripS k σ) a:=by
  have h1:=h.grow (w':=w.alloc obj) (S':=S) (zbh _ _) (fun _ _ hs=>hs) (fun _ _ hs=>.inl hs)
  have h2:=h1.upd (γ':=setK γ k w.heap.size) (T':=T) k (fun j hj=>zaz _ _ _ _ hj) (fun _ _=>rfl)
  refine h2.add (fun o hl=>?_) (ho _ (fun j hj=>zaz _ _ _ _ hj) (zaq _ _ _)) fun b hb k' o' hl hne hb'=>?_
  · rw [zar,Option.map_eq_some_iff] at hl
    obtain ⟨o',_,h3⟩:=hl
    simpa using h3.symm
  · have e:=hf _ b hb
    rw [zaq] at e
    rw [zar,Option.map_eq_some_iff] at hl
    obtain ⟨o2,h3,h4⟩:=hl
    rw [if_neg hne] at h4
    subst h4
    have h5:=fp.strip (γ:=γ) (T:=T) hne (fun j hj=>zaz _ _ _ _ hj) (fun _ _=>rfl) hb'
    have:=(h.st.obj k' o2 h3).lt h5
    omega
theorem zpy {d:Nat} {t:TypeId} (hw:wantA ops o fr=some true) (hdst:o.dst=some d) (hd:Nat.blt d X.nt=true) (ho:o.op=.makeMap t none)
    (h:RL X ops rest ((d,.one (.mr d)) :: stripF d fr) ((d,.mp []) :: stripS d σ) Q):RL X ops (o :: rest) fr σ Q :=
  ⟨fun γ T S w a K hr hk=>wpList_step fun K' hK=>by
    rw [if_pos (zam hr hw)]
    have hex:(execOp a.eval o).run X.P w=.ok (.value (.map (some w.heap.size))) (w.alloc (.map #[] 0)):=by
      simp only [execOp,ho,Option.map_none,Sem.run_bind,run_makeMap,Result.andThen_ok,Sem.run_pure]
    unfold Oper.wp
    rw [hex]
    have h7:=hr.allocO d (.map #[] 0) (.mp []) (fun γ' _ hg=>⟨[],0,by rw [hg];exact (MapKept.heap_alloc w _).1,⟨rfl,fun j p hp=>by simp at hp⟩,by rw [hg];exact (za6 hr _ (Nat.le_refl _)).1,by rw [hg];exact (za6 hr _ (Nat.le_refl _)).2,fun b hb=>by rw [X.low d (Nat.blt_eq ▸ hd)] at hb;cases hb⟩) (fun _ _ hb=>hb)
    refine hK _ _ (h.out (setK γ d w.heap.size) T S _ _ K ?_ hk)
    rw [hdst]
    exact h7.put (dst:=some d) hd (.one (by simp only [RC,zaq]))⟩
theorem zpX {k:Nat} {t kt et:TypeId} {d:TypeDesc} {m kx xx:Operand} {es:List (Value × VV)} {key:Value} {x:VV} (hw:wantA ops o fr=some true) (hdst:o.dst=none) (ho:o.op=.mapUpdate t m kx xx) (hm:ev fr m=some (.one (.mr k))) (hk:look σ k=some (.mp es)) (hkx:ev fr kx=some (.one (.d (.v key)))) (hxx:ev fr xx=some x) (hraw:rawV x=true)
    (ht:X.P.underlying t=some (.map kt et)) (hd:X.P.underlying kt=some d) (hks:∀ p∈es,MapKept.IsKey d p.1) (hkey:MapKept.IsKey d key)
    (h:RL X ops rest fr ((k,.mp (insM key x es)) :: σ) Q):RL X ops (o :: rest) fr σ Q :=
  ⟨fun γ T S w a K hr hkk=>wpList_step fun K' hK=>by
    rw [if_pos (zam hr hw)]
    obtain ⟨ms,clock,g1,g2,g3,g4,g5⟩:=hr.st.obj k _ hk
    have hv:=zae hr hm
    cases hv with
    | one hv =>
      have hev:a.eval m=.map (some (γ k)):=hv
      have hkv:a.eval kx=key:=zaw (zae hr hkx)
      obtain ⟨ms',clock',hrun,hR⟩:=zkN (P:=X.P) (x:=x) (value:=a.eval xx) ht hd g1 g2 hks hkey fun γ' T'=>zfP hraw (zae hr hxx)
      have hexec:(execOp a.eval o).run X.P w=.ok .skip { w with heap:=w.heap.setIfInBounds (γ k) (.map ms'.toArray clock') }:=by
        simp only [execOp,ho,hev,hkv,Sem.run_bind,hrun,Result.andThen_ok,Sem.run_pure]
      have honly:OnlyAt w { w with heap:=w.heap.setIfInBounds (γ k) (.map ms'.toArray clock') } (γ k):=⟨rfl,rfl,rfl,by simp,fun b hb=>(MapKept.heap_set g1).2 b hb⟩
      unfold Oper.wp
      rw [hexec]
      refine hK _ _ ?_
      have hkp:Kp S w { w with heap:=w.heap.setIfInBounds (γ k) (.map ms'.toArray clock') }:=fun b o x hs hc=>by
        rw [World.cell?_of_block (honly.block b fun e=>g3 o (e ▸ hs))];exact hc
      have:=(hr.chg (ob':=.mp (insM key x es)) hk rfl rfl honly ⟨ms',clock',(MapKept.heap_set g1).1,⟨hR.1,fun j p hp=>by
        obtain ⟨m,q1,q2,q3⟩:=hR.2 j p hp
        exact ⟨m,q1,q2,fun γ' T'=>(q3 γ' T').mono (fun _ _ hs=>hs) hkp⟩⟩,g3,g4,g5⟩).1
      have h9:=h.out γ T S _ a K this hkk
      rw [hdst]
      exact h9⟩
theorem zlk {a:Act} {x:Operand} {k:Nat} {t kt et:TypeId} {es:List (Value × VV)} (ho:o.op=.call { callee:=.builtin .len,args := #[x],argTypes := #[t] }) (ht:X.P.underlying t=some (.map kt et)) (hr:Rel X γ T S w fr σ a) (hx:ev fr x=some (.one (.mr k))) (hk:look σ k=some (.mp es)):(execOp a.eval o).run X.P w=.ok (.value (.int .i64 es.length)) w:=by
  obtain ⟨ms,clock,g1,g2,_⟩:=hr.st.obj k _ hk
  have hv:=zae hr hx
  cases hv with
  | one hv =>
    have e:a.eval x=.map (some (γ k)):=hv
    have hl:ms.toArray.size=es.length:=by rw [← g2.1];simp
    simp [execOp,ho,resolve,invoke,builtin,e,Builtin.len_,run_underlying ht,goInt,MapKept.run_getObj_map g1,g2.1]
variable {τ0 σB:Obs} {K:List Cr} {C0:Cons} {QD:Fr→Obs→Prop} {i0:Nat}
theorem zpb {x:Operand} {k d:Nat} {t kt et:TypeId} {es:List (Value × VV)} (hw:wantA ops o (restr ops o fr)=some true) (hdst:o.dst=some d) (hd:Nat.blt d X.nt=true) (ho:o.op=.call { callee:=.builtin .len,args := #[x],argTypes := #[t] }) (ht:X.P.underlying t=some (.map kt et)) (hx:ev (restr ops o fr) x=some (.one (.mr k))) (hk:look σB k=some (.mp es)) (hm:MenOk o K (.one (.d (.v (.int .i64 es.length)))))
    (h:DSeq X ops τ0 σB QD (i0+1) K C0 rest ((d,.one (.d (.v (.int .i64 es.length)))) :: fr)):DSeq X ops τ0 σB QD i0 K C0 (o :: rest) fr :=
  zbS hdst hd hm (.inr ⟨hw,fun _ _ S w _ hr=>.inl ⟨_,w,zlk ho ht hr hx hk,S,za3 S w,.one (.v _ rfl)⟩⟩) h
theorem zpG {d:Nat} {t:TypeId} {x:Operand} {cs:List C} (hw:wantA ops o fr=some true) (hdst:o.dst=some d) (hd:Nat.blt d X.nt=true) (ho:o.op=.box t x) (hx:ev fr x=some (.ag cs)) (hfree:cs.all (fun c=>(stripC d c).isSome)=true)
    (h:RL X ops rest ((d,.one (.po d 0)) :: stripF d fr) ((d,.obj t (stripL d cs)) :: stripS d σ) Q):RL X ops (o :: rest) fr σ Q :=
  ⟨fun γ T S w a K hr hk=>wpList_step fun K' hK=>by
    rw [if_pos (zam hr hw)]
    have hv:=zae hr hx
    generalize he:a.eval x=v at hv
    cases hv with
    | ag _ us len val =>
      have hex:(execOp a.eval o).run X.P w=.ok (.value (.pointer (some ⟨w.heap.size,0,none⟩))) (w.alloc (.cells us.toArray t)):=by
        simp only [execOp,ho,he,Instr.box,Sem.run_bind,Result.andThen_ok,zbO,Sem.run_pure,Value.cells]
      unfold Oper.wp
      rw [hex]
      have h7:=hr.alloc d us t (.obj t (stripL d cs)) (fun γ' hne hg=>⟨us,by rw [hg];exact heap_alloc_new w _,by
          have h8:RCL γ' T S w (stripL d cs) us:=⟨by unfold stripL;rw [List.length_map];exact len,fun j c hc=>by
            unfold stripL at hc
            rw [List.getElem?_map,Option.map_eq_some_iff] at hc
            obtain ⟨c0,h0,rfl⟩:=hc
            obtain ⟨u,h1,h2⟩:=val j c0 h0
            obtain ⟨c',hc'⟩:=Option.isSome_iff_exists.1 (List.all_eq_true.1 hfree c0 (List.mem_of_getElem? h0))
            have e:stripA d c0=c':=by unfold stripA;rw [hc']
            rw [e]
            exact ⟨u,h1,h2.strip hne (fun _ _=>rfl) hc',h2.one⟩⟩
          exact h8.mono (fun _ _ hs=>hs) (.of_below hr.st.lt (zbh _ _)),by rw [hg];exact (za6 hr _ (Nat.le_refl _)).1,by rw [hg];exact (za6 hr _ (Nat.le_refl _)).2,fun b hb=>by rw [X.low d (Nat.blt_eq ▸ hd)] at hb;cases hb⟩) (fun _ _ hb=>hb)
      refine hK _ _ (h.out (setK γ d w.heap.size) T S _ _ K ?_ hk)
      rw [hdst]
      exact h7.put (dst:=some d) hd (.one (by simp only [RC,zaq]))⟩
end
section
variable {w0:W0} {S0:Nat→Nat→Prop} {nt:Nat} {fr fr1:Fr} {σ σ1 σ2 τ0 τ1 σB:Obs} {o:Oper} {ops:Array Oper} {rest:List Oper} {Q:Fr→Obs→Prop} {d k:Nat} {xx:Operand} {QQ:Exit→Fr→Obs→Prop} {QD:Fr→Obs→Prop} {K:List Cr} {C0:Cons} {j0:Nat} {t kt et:TypeId}
theorem uMkM (h:RL (cx nt w0 S0) ops rest ((d,.one (.mr d)) :: fr1) ((d,.mp []) :: σ1) Q) (ho:o.op=.makeMap t none:=by rfl) (hw:wantA ops o fr=some true:=by rfl) (hdst:o.dst=some d:=by rfl) (hd:Nat.blt d nt=true:=by rfl) (hf:stripF d fr=fr1:=by exact strxA) (hs:stripS d σ=σ1:=by exact strxA):RL (cx nt w0 S0) ops (o :: rest) fr σ Q :=
  zpy (X:=cx nt w0 S0) hw hdst hd ho (hf ▸ hs ▸ h)
theorem uMuM {dd:TypeDesc} {m kx:Operand} {es:List (Value × VV)} {key:Value} {x:VV} (hks:∀ p∈es,MapKept.IsKey dd p.1) (h:RL (cx nt w0 S0) ops rest fr ((k,.mp (insM key x es)) :: σ) Q) (ho:o.op=.mapUpdate t m kx xx:=by rfl) (hw:wantA ops o fr=some true:=by rfl) (hdst:o.dst=none:=by rfl) (hm:ev fr m=some (.one (.mr k)):=by rfl) (hk:look σ k=some (.mp es):=by rfl) (hkx:ev fr kx=some (.one (.d (.v key))):=by rfl) (hxx:ev fr xx=some x:=by rfl) (hraw:rawV x=true:=by rfl)
    (ht:Tryz.prog.underlying t=some (.map kt et):=by rfl) (hd:Tryz.prog.underlying kt=some dd:=by rfl) (hkey:MapKept.IsKey dd key:=by trivial):RL (cx nt w0 S0) ops (o :: rest) fr σ Q :=
  zpX (X:=cx nt w0 S0) hw hdst ho hm hk hkx hxx hraw ht hd hks hkey h
theorem mLenM {es:List (Value × VV)} {n:Nat} (h:DSeq (cx nt w0 S0) ops τ0 σB QD (j0+1) K C0 rest ((d,vI n) :: fr)) (ho:o.op=.call { callee:=.builtin .len,args := #[xx],argTypes := #[t] }:=by rfl) (hx:ev (restr ops o fr) xx=some (.one (.mr k)):=by rfl) (hk:look σB k=some (.mp es):=by rfl) (hn:es.length=n:=by rfl) (hw:wantA ops o (restr ops o fr)=some true:=by rfl) (hdst:o.dst=some d:=by rfl) (hd:Nat.blt d nt=true:=by rfl) (ht:Tryz.prog.underlying t=some (.map kt et):=by rfl) (hm:MenOk o K (vI n):=by (repeat (first|exact zax _ _|refine zau (by first|exact Or.inl rfl|exact Or.inr rfl) ?_))):DSeq (cx nt w0 S0) ops τ0 σB QD j0 K C0 (o :: rest) fr:=by
  subst hn
  exact zpb (X:=cx nt w0 S0) hw hdst hd ho ht hx hk hm h
theorem uBxG {cs cs':List C} (h:RL (cx nt w0 S0) ops rest ((d,.one (.po d 0)) :: fr1) ((d,.obj t cs') :: σ1) Q) (ho:o.op=.box t xx:=by rfl) (hw:wantA ops o fr=some true:=by rfl) (hdst:o.dst=some d:=by rfl) (hd:Nat.blt d nt=true:=by rfl) (hx:ev fr xx=some (.ag cs):=by rfl) (hfree:cs.all (fun c=>(stripC d c).isSome)=true:=by rfl) (hc:stripL d cs=cs':=by rfl) (hf:stripF d fr=fr1:=by exact strxA) (hs:stripS d σ=σ1:=by exact strxA):RL (cx nt w0 S0) ops (o :: rest) fr σ Q :=
  zpG (X:=cx nt w0 S0) hw hdst hd ho hx hfree (hf ▸ hs ▸ hc ▸ h)
end
end Go.Proofs.YtiplihojmfbjkaaGreat
