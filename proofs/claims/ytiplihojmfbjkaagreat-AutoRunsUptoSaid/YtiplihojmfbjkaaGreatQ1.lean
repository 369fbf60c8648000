/- Walks: in which directions an edge leads from one node to another one. -/
import Derived.Test.YtiplihojmfbjkaaGreatGR
import Derived.Test.YtiplihojmfbjkaaGreatQB
import Derived.Test.YtiplihojmfbjkaaGreatWM
import Derived.Test.YtiplihojmfbjkaaGreatQD
import Derived.Test.YtiplihojmfbjkaaGreatQ2
set_option maxRecDepth 100000
set_option maxHeartbeats 16000000
namespace Go.Proofs.YtiplihojmfbjkaaGreat
open Go.RowKit
section
variable {w0:W0} {S0:Nat→Nat→Prop} {nt:Nat} {fr:Fr} {σ:Obs} {o:Oper} {ops:Array Oper} {rest:List Oper} {d:Nat} {t t2:TypeId} {Q:Fr→Obs→Prop}
theorem uOr {xx yy:Operand} {a b c:Int} (hc:IntKind.i64.wrap (BitVec.ofInt IntKind.i64.bits a ||| BitVec.ofInt IntKind.i64.bits b).toNat=c) (h:RL (cx nt w0 S0) ops rest ((d,vI c) :: fr) σ Q) (ho:o.op=.binOp .or t xx yy t2:=by rfl) (hdst:o.dst=some d:=by rfl) (hd:Nat.blt d nt=true:=by rfl) (hw:wantA ops o fr=some true:=by rfl) (hx:ev fr xx=some (vI a):=by rfl) (hy:ev fr yy=some (vI b):=by rfl):RL (cx nt w0 S0) ops (o :: rest) fr σ Q :=
  ⟨fun γ T S w a' K hrel hk=>wpList_step fun K' hK=>by
    rw [if_pos (zam hrel hw)]
    have h1:a'.eval xx=.int .i64 a:=zaw (zae hrel hx)
    have h2:a'.eval yy=.int .i64 b:=zaw (zae hrel hy)
    have hex:(execOp a'.eval o).run (cx nt w0 S0).P w=.ok (.value (.int .i64 c)) w:=by
      have hg:(eqGuard .or t xx yy (.int .i64 a) (.int .i64 b)).run (cx nt w0 S0).P w=.ok () w:=rfl
      simp only [execOp,ho,h1,h2,Sem.run_bind,hg,Result.andThen_ok]
      have hb:(binOp .or t (.int .i64 a) (.int .i64 b)).run (cx nt w0 S0).P w=.ok (.int .i64 c) w:=by rw [← hc];rfl
      simp only [hb,Result.andThen_ok,Sem.run_pure]
    unfold Oper.wp
    rw [hex]
    refine hK _ _ (h.out γ T S w _ K ?_ hk)
    rw [hdst]
    exact hrel.put (dst:=some d) hd (.one (.v _ rfl))⟩
end
def along3:Bool→Bool→Bool→Int
  | false,false,_=>0
  | _,_,false=>2
  | true,true,true=>5
  | true,false,true=>4
  | false,true,true=>1
def alongE (d:Ed) (x y:Int):Int:=along3 (decide (d.src=x∧d.dst=y)) (decide (d.src=y∧d.dst=x)) d.dir
def alongF (g:Gr) (e x y:Int):Int:=if e < 0 then 0 else match g.edges[e.toNat]? with
  | none=>0
  | some d=>alongE d x y
theorem zm9 {g:Gr} {e x y:Int} (h:e < 0∨(g.edges.length:Int)≤e):alongF g e x y=0:=by
  unfold alongF
  split
  · rfl
  · rw [List.getElem?_eq_none (by omega)]
theorem zkz {g:Gr} {e x y:Int} {d:Ed} (h0:¬ e < 0) (h:g.edges[e.toNat]?=some d):alongF g e x y=alongE d x y:=by
  unfold alongF
  rw [if_neg h0,h]
theorem zgE (g:Gr) (e x y:Int):CallsV Tryz.prog 42 [.dat (encG g),vI e,vI x,vI y] (.val (vI (alongF g e x y))):=by
  have hle:(g.edges.map encEd).length=g.edges.length:=List.length_map _
  unfold encG
  by_cases h:e < 0∨(g.edges.length:Int)≤e
  · rw [zm9 h]
    rcases h with h|h
    all_goals
      (refine zaa (Ty:=Ty) zad Tryz.func42 rfl rfl rfl fun w0 S0=>?_;refine enA ?_)
      repeat' (first|refine nx ?_|(refine nx2 ?_ ?_<;>intro hb))
      exact zab (by rfl) rfl
  obtain ⟨d,hd⟩:∃ d,g.edges[e.toNat]?=some d:=⟨_,List.getElem?_eq_getElem (by omega)⟩
  rw [zkz (by omega) hd]
  unfold alongE
  cases e1:decide (d.src=x∧d.dst=y)<;>cases e2:decide (d.src=y∧d.dst=x)<;>cases e3:d.dir
  all_goals
    simp only [decide_eq_true_eq,decide_eq_false_iff_not] at e1 e2
    (refine zaa (Ty:=Ty) zad Tryz.func42 rfl rfl rfl fun w0 S0=>?_;refine enA ?_)
    repeat' (first|(refine isRL ?_;first|refine uOr (a:=0) (b:=4) (c:=4) (by decide) ?_|refine uOr (a:=0) (b:=1) (c:=1) (by decide) ?_|refine uOr (a:=4) (b:=1) (c:=5) (by decide) ?_)|refine nx ?_|(refine nx2 ?_ ?_<;>intro hb))
    all_goals first|exact zab (by rfl) rfl|(exfalso;rw [e3] at hb;cases hb)
end Go.Proofs.YtiplihojmfbjkaaGreat
namespace Go.Proofs.YtiplihojmfbjkaaGreat
open Go.RowKit
structure MachOk (m:Mach) (n:Nat):Prop where
  st:m.states=(n:Int)
  small:n≤1000000
  mv:m.moves.length≤1000000
  inr:inR m.moves n
  el:∀ v∈m.moves,elemOk m v
theorem zhA (st:Mv→Bool) (f:Int):∀ (M:List Mv) (q:Qs),(M.foldl (stepQ st f) q).1.length=q.1.length
  | [],_=>rfl
  | v :: M,q=>by
    rw [List.foldl_cons,zhA st f M]
    unfold stepQ
    split
    · split
      · exact zl7 _ _
      · rfl
    · rfl
theorem zjN (m:Mach) (n:Nat) (fit:List (List Bool)) (s:List Bool) (node:Int) (hm:MachOk m n) (hf:FitOk 1 m fit node):CallsV Tryz.prog 40 [.dat (encA m),vL (fit.map encR),vL (s.map encB),vI node] (.own 4 1 ((closeB m.moves (staysB m fit node) (hasB s) n).map encB)):=by
  obtain ⟨hst,hn,hml,hL,hel⟩:=hm
  have hsl:(s.map encB).length=s.length:=List.length_map _
  have hmm:(m.moves.map encMv).length=m.moves.length:=List.length_map _
  have hE:=fun (q:Qs) (x:Int) (hl:q.1.length=n) (h0:0≤x) (hx:x < n)=>zoL q x n hl h0 hx hn
  have hS:=fun (v:Mv) (hv:v∈m.moves)=>zjP m fit v node hf (hel v hv)
  unfold closeS at hE
  have hrep:List.replicate n [D.v (.bool false)]=(initQ (hasB s) n 0).1.map encB:=by unfold initQ;rw [List.range_zero,List.foldl_nil,List.map_replicate];rfl
  unfold encA at hS ⊢
  rw [hst] at hS ⊢
  skip
  refine zbj (Ty:=Ty) zad Tryz.func40 rfl rfl rfl fun w0 S0 _ hp=>?_
  refine enA ?_
  repeat' (first|(refine isRL ?_;first|refine uMk n ?_|refine uWl ?_)|refine nx ?_|(refine nx2 ?_ ?_<;>intro hb))
  rw [hrep]
  refine wRn 9 1001 (zaH (hp 1001)) ?_
  refine wRn 10 1002 (zaH (hp 1002)) ?_
  refine wRn 18 1003 (zaH (hp 1003)) ?_
  refine wNilq (trues (initQ (hasB s) n 0).1) 1002 1004 3 1 ?_
  refine zay (α:=Nat) (fun i=>[(1,vL (fit.map encR)),(2,vL (s.map encB)),(3,vI node),(4,.one (.po 4 0)),(9,.one (.po 1001 0)),(10,.one (.po 1002 0)),(11,.one (.fn 84 [1001,1002])),(21,vI (n:Int)),(22,vI i)]) (fun i=>[(4,.box 47 [.sl (m.elems.map encP),.sl (m.moves.map encMv),.v (.int .i64 (n:Int))]),(1001,.cell 72 (.win 1003 0 n n 1)),(1002,.cell 55 (.que 1004 1 (trues (initQ (hasB s) n i).1) ((initQ (hasB s) n i).2.map encI))),(1003,.arr 4 1 ((initQ (hasB s) n i).1.map encB)),(1004,.tok 3 1)]) (fun i=>i≤n) (fun i=>n - i) 0 (Nat.zero_le _) subA subA ?_
  intro i hi
  obtain ⟨hinv,hbase⟩:=ziT (st:=staysB m fit node) (s:=hasB s) hL i hi
  by_cases hlt:i < n
  · have hH:=znJ s (i:Int) (by omega)
    rw [Int.toNat_natCast] at hH
    have hnx:initQ (hasB s) n (i+1)=baseQ (hasB s) (initQ (hasB s) n i) i:=zhd _ _ _
    unfold baseQ at hnx
    cases hs:hasB s i with
    | false =>
      rw [hs] at hH
      rw [hs,if_neg (by decide)] at hnx
      repeat' (first|refine uC (hH) ?_|refine nx ?_|(refine nx2 ?_ ?_<;>intro hb))
      exact ⟨i+1,by omega,by omega,subA,(by simp only [hnx];exact subA)⟩
    | true =>
      rw [hs] at hH
      rw [hs,if_pos rfl] at hnx
      have hEi:=hE (initQ (hasB s) n i) (i:Int) hinv.len (by omega) (by omega)
      repeat' (first|(refine isCl ?_;first|refine uC (hH) ?_|refine uM (hEi) ?_)|refine nx ?_|(refine nx2 ?_ ?_<;>intro hb))
      exact ⟨i+1,by omega,by omega,subA,(by simp only [hnx];exact subA)⟩
  · obtain rfl:n=i:=by omega
    repeat' (first|refine nx ?_|(refine nx2 ?_ ?_<;>intro hb))
    refine zay (α:=Qs) (fun _=>[(1,vL (fit.map encR)),(2,vL (s.map encB)),(3,vI node),(4,.one (.po 4 0)),(9,.one (.po 1001 0)),(10,.one (.po 1002 0)),(11,.one (.fn 84 [1001,1002]))]) (fun q=>[(4,.box 47 [.sl (m.elems.map encP),.sl (m.moves.map encMv),.v (.int .i64 (n:Int))]),(1001,.cell 72 (.win 1003 0 n n 1)),(1002,.cell 55 (.que 1004 1 (trues q.1) (q.2.map encI))),(1003,.arr 4 1 (q.1.map encB)),(1004,.tok 3 1)]) (fun q=>QInv m.moves (staysB m fit node) (hasB s) n (fun _=>False) q∧ ∀ j,j < n→hasB s j=true→hasB q.1 j=true) (fun q=>falses q.1+q.2.length) (initQ (hasB s) n n) ⟨hinv,hbase⟩ subA subA ?_
    rintro ⟨out,todo⟩ ⟨hq,hb⟩
    dsimp only at hb ⊢
    cases todo with
    | nil =>
      have hd:=zkG hL hq hb
      have hol:out.length=n:=hq.len
      iterate 14 (first|refine nx ?_|(refine nx2 ?_ ?_<;>intro hb))
      refine uArrTok (n:=n) (rows:=out.map encB) 8 1003 ?_ (by rw [List.length_map];exact hol.symm) (by rw [List.length_map];omega)
      repeat' (first|refine nx ?_|(refine nx2 ?_ ?_<;>intro hb))
      exact zbZ (by rfl) (by rfl) (by rw [hd])
    | cons f r =>
      obtain ⟨hq2,hmu,hmono⟩:=hq.pop hL
      have hol:out.length=n:=hq.len
      have hfl:(List.map encI (f :: r)).length=r.length+1:=by simp
      have htl:=ziG out
      obtain ⟨hf0,hfn,_⟩:=hq.todo f List.mem_cons_self
      have hf2:(f :: r).length=r.length+1:=rfl
      repeat' (first|refine uSlq ?_|refine nx ?_|(refine nx2 ?_ ?_<;>intro hb))
      refine zay (α:=Nat) (fun i=>[(1,vL (fit.map encR)),(2,vL (s.map encB)),(3,vI node),(4,.one (.po 4 0)),(9,.one (.po 1001 0)),(10,.one (.po 1002 0)),(11,.one (.fn 84 [1001,1002])),(13,vI f),(41,vL (m.moves.map encMv)),(42,vI ((m.moves.map encMv).length:Int)),(43,vI i)]) (fun i=>[(4,.box 47 [.sl (m.elems.map encP),.sl (m.moves.map encMv),.v (.int .i64 (n:Int))]),(1001,.cell 72 (.win 1003 0 n n 1)),(1002,.cell 55 (.que 1004 1 (trues ((m.moves.take i).foldl (stepQ (staysB m fit node) f) (out,r)).1) (((m.moves.take i).foldl (stepQ (staysB m fit node) f) (out,r)).2.map encI))),(1003,.arr 4 1 (((m.moves.take i).foldl (stepQ (staysB m fit node) f) (out,r)).1.map encB)),(1004,.tok 3 1)]) (fun i=>i≤m.moves.length) (fun i=>m.moves.length - i) 0 (Nat.zero_le _) subA subA ?_
      intro i hi
      by_cases hlt:i < m.moves.length
      · obtain ⟨v,hv⟩:∃ v,m.moves[i]?=some v:=⟨_,List.getElem?_eq_getElem hlt⟩
        have hvm:=List.mem_of_getElem? hv
        have hnx:(m.moves.take (i+1)).foldl (stepQ (staysB m fit node) f) (out,r)=stepQ (staysB m fit node) f ((m.moves.take i).foldl (stepQ (staysB m fit node) f) (out,r)) v:=zbe hv
        have hln:((m.moves.take i).foldl (stepQ (staysB m fit node) f) (out,r)).1.length=n:=by rw [zhA];exact hol
        obtain ⟨b1,b2,b3,b4⟩:=hL v hvm
        have hSv:=hS v hvm
        unfold encMv at hSv
        by_cases hc:v.src=f
        · cases hst2:staysB m fit node v with
          | false =>
            rw [hst2] at hSv
            have e:stepQ (staysB m fit node) f ((m.moves.take i).foldl (stepQ (staysB m fit node) f) (out,r)) v=((m.moves.take i).foldl (stepQ (staysB m fit node) f) (out,r)):=by unfold stepQ;rw [if_pos hc,if_neg (by rw [hst2];decide)]
            rw [e] at hnx
            repeat' (first|refine uC (hSv) ?_|refine nx ?_|(refine nx2 ?_ ?_<;>intro hb))
            exact ⟨i+1,by omega,by omega,subA,(by simp only [hnx];exact subA)⟩
          | true =>
            rw [hst2] at hSv
            have e:stepQ (staysB m fit node) f ((m.moves.take i).foldl (stepQ (staysB m fit node) f) (out,r)) v=enterQ ((m.moves.take i).foldl (stepQ (staysB m fit node) f) (out,r)) v.dst:=by unfold stepQ;rw [if_pos hc,if_pos hst2]
            rw [e] at hnx
            have hEi:=hE ((m.moves.take i).foldl (stepQ (staysB m fit node) f) (out,r)) v.dst hln b3 b4
            repeat' (first|(refine isCl ?_;first|refine uC (hSv) ?_|refine uM (hEi) ?_)|refine nx ?_|(refine nx2 ?_ ?_<;>intro hb))
            exact ⟨i+1,by omega,by omega,subA,(by simp only [hnx];exact subA)⟩
        · have e:stepQ (staysB m fit node) f ((m.moves.take i).foldl (stepQ (staysB m fit node) f) (out,r)) v=((m.moves.take i).foldl (stepQ (staysB m fit node) f) (out,r)):=by unfold stepQ;rw [if_neg hc]
          rw [e] at hnx
          repeat' (first|refine nx ?_|(refine nx2 ?_ ?_<;>intro hb))
          exact ⟨i+1,by omega,by omega,subA,(by simp only [hnx];exact subA)⟩
      · obtain rfl:i=m.moves.length:=by omega
        repeat' (first|refine nx ?_|(refine nx2 ?_ ?_<;>intro hb))
        rw [List.take_length]
        exact ⟨m.moves.foldl (stepQ (staysB m fit node) f) (out,r),by show falses _+List.length _ < falses out+(f :: r).length;omega,⟨hq2,fun j hj hs=>hmono j (hb j hj hs)⟩,subA,subA⟩
end Go.Proofs.YtiplihojmfbjkaaGreat
namespace Go.Proofs.YtiplihojmfbjkaaGreat
open Go.RowKit
def stP:Pt→Nat:=foldP fun p ks=>(if p.kind=3 then p.kids.length - 1 else if p.kind=5∧p.max < 0 then 1 else 0)+ks.sum
theorem zpd (p:Pt):stP p=(if p.kind=3 then p.kids.length - 1 else if p.kind=5∧p.max < 0 then 1 else 0)+(p.kids.map stP).sum:=by unfold stP;rw [zaV]
def frP:Pt→Nat:=foldP fun p ks=>(if p.kind=5 then (if p.max < 0 then 2 else 1) else 0)+ks.sum
theorem zpC (p:Pt):frP p=(if p.kind=5 then (if p.max < 0 then 2 else 1) else 0)+(p.kids.map frP).sum:=by unfold frP;rw [zaV]
structure Cn (s f:Nat) (l:List Pt) (m m':Mach):Prop where
  st:m'.states=m.states+s
  mv:m'.moves.length=m.moves.length+l.length+f
  el:m'.elems=m.elems++l
theorem zgC:∀ (p:Pt) (s t:Int) (m:Mach),shapeP p=true→Cn (stP p) (frP p) (elems p) m (layM p s t m):=Pt.ind fun p ih s t m hs=>by
  have hsk:=zbz hs
  have h1:=zpd p
  have h2:=zpC p
  have h3:=za5 p
  have hup:∀ (l:List Pt),(∀ k∈l,k∈p.kids)→ ∀ (x:Int × Mach),Cn ((l.map stP).sum+l.length) ((l.map frP).sum) (l.flatMap elems) x.2 (l.foldl upP x).2:=by
    intro l
    induction l with
    | nil=>intro _ x;exact ⟨by simp,by simp,by simp⟩
    | cons k l ihl =>
      intro hl x
      rw [List.foldl_cons,List.map_cons,List.sum_cons,List.map_cons,List.sum_cons,List.flatMap_cons,List.length_cons]
      obtain ⟨a1,a2,a3⟩:=ih k (hl k List.mem_cons_self) x.1 x.2.states (stM x.2) (hsk k (hl k List.mem_cons_self))
      obtain ⟨b1,b2,b3⟩:=ihl (fun y hy=>hl y (List.mem_cons_of_mem _ hy)) (upP x k)
      simp only [upP,upM,stM] at *
      refine ⟨by omega,by rw [List.length_append];omega,by rw [b3,a3,List.append_assoc]⟩
  have halt:∀ (l:List Pt),(∀ k∈l,k∈p.kids)→ ∀ (m:Mach),Cn ((l.map stP).sum) ((l.map frP).sum) (l.flatMap elems) m (l.foldl (fun m k=>layM k s t m) m):=by
    intro l
    induction l with
    | nil=>intro _ x;exact ⟨by simp,by simp,by simp⟩
    | cons k l ihl =>
      intro hl x
      rw [List.foldl_cons,List.map_cons,List.sum_cons,List.map_cons,List.sum_cons,List.flatMap_cons]
      obtain ⟨a1,a2,a3⟩:=ih k (hl k List.mem_cons_self) s t x (hsk k (hl k List.mem_cons_self))
      obtain ⟨b1,b2,b3⟩:=ihl (fun y hy=>hl y (List.mem_cons_of_mem _ hy)) (layM k s t x)
      refine ⟨by omega,by rw [List.length_append];omega,by rw [b3,a3,List.append_assoc]⟩
  rcases zbQ hs with ⟨hk,hk0⟩ | ⟨hk,hne⟩ | ⟨hk,⟨k,hkk⟩,hm⟩
  · rw [if_pos (by unfold isElem;rcases hk with hk|hk<;>simp [hk])] at h3
    rw [if_neg (by omega),if_neg (by omega),hk0] at h1
    rw [if_neg (by omega),hk0] at h2
    rw [zcx hk,h1,h2,h3]
    exact ⟨by simp [elM,mvM],by simp [elM,mvM],rfl⟩
  · rw [if_neg (by unfold isElem;rcases hk with hk|hk<;>simp [hk])] at h3
    rw [if_neg (by omega)] at h2
    by_cases k3:p.kind=3
    · rw [if_pos k3] at h1
      have hlen:0 < p.kids.length:=List.length_pos_iff.2 hne
      obtain ⟨k,hkl⟩:∃ k,p.kids[p.kids.length - 1]?=some k:=⟨_,List.getElem?_eq_getElem (by omega)⟩
      rw [zdj k3 hkl]
      have hm:=List.mem_of_getElem? hkl
      obtain ⟨a1,a2,a3⟩:=ih k hm ((p.kids.take (p.kids.length - 1)).foldl upP (s,m)).1 t ((p.kids.take (p.kids.length - 1)).foldl upP (s,m)).2 (hsk k hm)
      obtain ⟨b1,b2,b3⟩:=hup (p.kids.take (p.kids.length - 1)) (fun y hy=>List.mem_of_mem_take hy) (s,m)
      have hsp:p.kids=p.kids.take (p.kids.length - 1)++[k]:=by
        conv=>lhs;rw [← List.take_append_drop (p.kids.length - 1) p.kids]
        congr 1
        rw [List.drop_eq_getElem_cons (by omega),(List.getElem?_eq_some_iff.1 hkl).2,List.drop_eq_nil_of_le (by omega)]
      have e1:(p.kids.map stP).sum=((p.kids.take (p.kids.length - 1)).map stP).sum+stP k:=by
        conv=>lhs;rw [hsp]
        rw [List.map_append,List.sum_append];simp
      have e2:(p.kids.map frP).sum=((p.kids.take (p.kids.length - 1)).map frP).sum+frP k:=by
        conv=>lhs;rw [hsp]
        rw [List.map_append,List.sum_append];simp
      have e3:p.kids.flatMap elems=(p.kids.take (p.kids.length - 1)).flatMap elems++elems k:=by
        conv=>lhs;rw [hsp]
        rw [List.flatMap_append];simp
      have e4:(p.kids.take (p.kids.length - 1)).length=p.kids.length - 1:=by rw [List.length_take];omega
      rw [e3] at h3
      rw [h3]
      simp only at b1 b2 b3
      refine ⟨by omega,by rw [List.length_append];omega,by rw [a3,b3,List.append_assoc]⟩
    · rw [if_neg k3,if_neg (by omega)] at h1
      rw [zde (by omega),h3]
      obtain ⟨b1,b2,b3⟩:=halt p.kids (fun _ h=>h) m
      refine ⟨by omega,by omega,b3⟩
  · rw [if_neg (by unfold isElem;simp [hk]),hkk] at h3
    rw [if_pos hk,hkk] at h2
    rw [if_neg (by omega),hkk] at h1
    simp only [List.map_cons,List.map_nil,List.sum_cons,List.sum_nil,Nat.add_zero,List.flatMap_cons,List.flatMap_nil,List.append_nil] at h1 h2 h3
    have hmem:k∈p.kids:=by rw [hkk];exact List.mem_cons_self
    rw [h3]
    rcases hm with hm|hm
    · rw [if_neg (by omega)] at h1
      rw [if_neg (by omega)] at h2
      rw [zdh hk hkk hm]
      obtain ⟨a1,a2,a3⟩:=ih k hmem s t (mvM s t (-1) m) (hsk k hmem)
      generalize layM k s t (mvM s t (-1) m)=m' at a1 a2 a3 ⊢
      simp only [mvM,List.length_append,List.length_singleton] at a1 a2 a3
      refine ⟨by omega,by omega,a3⟩
    · rw [if_pos ⟨hk,by omega⟩] at h1
      rw [if_pos (by omega)] at h2
      rw [zct hk hkk (by omega)]
      obtain ⟨a1,a2,a3⟩:=ih k hmem m.states m.states (mvM s m.states (-1) (stM m)) (hsk k hmem)
      generalize layM k m.states m.states (mvM s m.states (-1) (stM m))=m' at a1 a2 a3 ⊢
      simp only [mvM,stM,List.length_append,List.length_singleton] at a1 a2 a3
      refine ⟨by simp only [mvM];omega,by simp only [mvM,List.length_append,List.length_singleton];omega,a3⟩
def isEl (v:Mv):Bool:=decide (0≤v.elem)
def cntM (l:List Mv):Nat:=(l.filter isEl).length
theorem zj7 (a b:List Mv):cntM (a++b)=cntM a+cntM b:=by unfold cntM;rw [List.filter_append,List.length_append]
structure Inv (m:Mach):Prop where
  st:2≤m.states
  mv:∀ v∈m.moves,0≤v.src∧v.src < m.states∧0≤v.dst∧v.dst < m.states∧v.src≠1∧ -1≤v.elem∧v.elem < m.elems.length
  ord:∀ (i:Nat) (v:Mv),m.moves[i]?=some v→0≤v.elem→v.elem=cntM (m.moves.take i)
  cnt:cntM m.moves=m.elems.length
theorem zio {m:Mach} {s t:Int} (h:Inv m) (hs:0≤s∧s < m.states∧s≠1) (ht:0≤t∧t < m.states):Inv (mvM s t (-1) m):=by
  obtain ⟨h1,h2,h3,h4⟩:=h
  refine ⟨h1,fun v hv=>?_,fun i v hv h0=>?_,?_⟩
  · rcases List.mem_append.1 hv with hv|hv
    · exact h2 v hv
    · obtain rfl:=List.mem_singleton.1 hv
      show 0≤s∧s < m.states∧0≤t∧t < m.states∧s≠1∧(-1:Int) ≤ -1∧(-1:Int) < m.elems.length
      omega
  · simp only [mvM] at hv ⊢
    by_cases hi:i < m.moves.length
    · rw [List.getElem?_append_left hi] at hv
      rw [h3 i v hv h0,List.take_append_of_le_length (by omega)]
    · rw [List.getElem?_append_right (by omega)] at hv
      obtain rfl:=List.mem_singleton.1 (List.mem_of_getElem? hv)
      exact absurd (show (0:Int) ≤ -1 from h0) (by decide)
  · simp only [mvM]
    rw [zj7,h4];rfl
theorem zpl {m:Mach} {s t:Int} {p:Pt} (h:Inv m) (hs:0≤s∧s < m.states∧s≠1) (ht:0≤t∧t < m.states):Inv (elM p (mvM s t m.elems.length m)):=by
  obtain ⟨h1,h2,h3,h4⟩:=h
  refine ⟨h1,fun v hv=>?_,fun i v hv h0=>?_,?_⟩
  · simp only [elM,mvM,List.length_append,List.length_singleton] at hv ⊢
    rcases List.mem_append.1 hv with hv|hv
    · have:=h2 v hv;omega
    · obtain rfl:=List.mem_singleton.1 hv
      show 0≤s∧s < m.states∧0≤t∧t < m.states∧s≠1∧(-1:Int)≤m.elems.length∧(m.elems.length:Int) < ((m.elems.length+1:Nat):Int)
      omega
  · simp only [elM,mvM] at hv ⊢
    by_cases hi:i < m.moves.length
    · rw [List.getElem?_append_left hi] at hv
      rw [h3 i v hv h0,List.take_append_of_le_length (by omega)]
    · rw [List.getElem?_append_right (by omega)] at hv
      have hi0:i=m.moves.length:=by
        have:=(List.getElem?_eq_some_iff.1 hv).1
        simp only [List.length_singleton] at this;omega
      obtain rfl:=List.mem_singleton.1 (List.mem_of_getElem? hv)
      subst hi0
      rw [List.take_left,h4]
  · simp only [elM,mvM,List.length_append,List.length_singleton]
    rw [zj7,h4]
    unfold cntM
    rw [List.filter_cons,if_pos (by unfold isEl;simp)];rfl
theorem zlw {m:Mach} (h:Inv m):Inv (stM m):=by
  obtain ⟨h1,h2,h3,h4⟩:=h
  exact ⟨by simp only [stM];omega,fun v hv=>by have:=h2 v hv;simp only [stM];omega,h3,h4⟩
theorem zn3:∀ (p:Pt) (s t:Int) (m:Mach),shapeP p=true→Inv m→(0≤s∧s < m.states∧s≠1)→(0≤t∧t < m.states)→Inv (layM p s t m):=Pt.ind fun p ih s t m hs h hst htt=>by
  have hsk:=zbz hs
  have hup:∀ (l:List Pt),(∀ k∈l,k∈p.kids)→ ∀ (x:Int × Mach),Inv x.2→(0≤x.1∧x.1 < x.2.states∧x.1≠1)→m.states≤x.2.states→Inv (l.foldl upP x).2∧(0≤(l.foldl upP x).1∧(l.foldl upP x).1 < (l.foldl upP x).2.states∧(l.foldl upP x).1≠1)∧m.states≤(l.foldl upP x).2.states:=by
    intro l
    induction l with
    | nil=>intro _ x h1 h2 h3;exact ⟨h1,h2,h3⟩
    | cons k l ihl =>
      intro hl x h1 h2 h3
      rw [List.foldl_cons]
      have hk:=hsk k (hl k List.mem_cons_self)
      have a:=ih k (hl k List.mem_cons_self) x.1 x.2.states (stM x.2) hk (zlw h1) (by simp only [stM];omega) (by have:=h1.st;simp only [stM];omega)
      obtain ⟨⟨_,_,a3,_⟩,_⟩:=zdl k x.1 x.2.states (stM x.2) hk
      have hst2:=h1.st
      simp only [stM] at a3
      exact ihl (fun y hy=>hl y (List.mem_cons_of_mem _ hy)) (upP x k) a (by simp only [upP,upM,stM];omega) (by simp only [upP,upM,stM];omega)
  have halt:∀ (l:List Pt),(∀ k∈l,k∈p.kids)→ ∀ (m':Mach),Inv m'→m.states≤m'.states→Inv (l.foldl (fun m k=>layM k s t m) m'):=by
    intro l
    induction l with
    | nil=>intro _ x h1 _;exact h1
    | cons k l ihl =>
      intro hl x h1 h2
      rw [List.foldl_cons]
      have hk:=hsk k (hl k List.mem_cons_self)
      obtain ⟨⟨_,_,a3,_⟩,_⟩:=zdl k s t x hk
      exact ihl (fun y hy=>hl y (List.mem_cons_of_mem _ hy)) (layM k s t x) (ih k (hl k List.mem_cons_self) s t x hk h1 (by omega) (by omega)) (by omega)
  rcases zbQ hs with ⟨hk,hk0⟩ | ⟨hk,hne⟩ | ⟨hk,⟨k,hkk⟩,hm⟩
  · rw [zcx hk];exact zpl h hst htt
  · by_cases k3:p.kind=3
    · have hlen:0 < p.kids.length:=List.length_pos_iff.2 hne
      obtain ⟨k,hkl⟩:∃ k,p.kids[p.kids.length - 1]?=some k:=⟨_,List.getElem?_eq_getElem (by omega)⟩
      rw [zdj k3 hkl]
      obtain ⟨a1,a2,a3⟩:=hup (p.kids.take (p.kids.length - 1)) (fun y hy=>List.mem_of_mem_take hy) (s,m) h hst (Int.le_refl _)
      have hmm:=List.mem_of_getElem? hkl
      exact ih k hmm _ t _ (hsk k hmm) a1 a2 (by omega)
    · rw [zde (by omega)]
      exact halt p.kids (fun _ h=>h) m h (Int.le_refl _)
  · have hmem:k∈p.kids:=by rw [hkk];exact List.mem_cons_self
    rcases hm with hm|hm
    · rw [zdh hk hkk hm]
      exact ih k hmem s t _ (hsk k hmem) (zio h hst htt) hst htt
    · rw [zct hk hkk (by omega)]
      have hst2:=h.st
      have h1:Inv (mvM s m.states (-1) (stM m)):=zio (zlw h) (by simp only [stM];omega) (by simp only [stM];omega)
      obtain ⟨⟨_,_,a3,_⟩,_⟩:=zdl k m.states m.states (mvM s m.states (-1) (stM m)) (hsk k hmem)
      simp only [mvM,stM] at a3
      have h2:=ih k hmem m.states m.states (mvM s m.states (-1) (stM m)) (hsk k hmem) h1 (by simp only [mvM,stM];omega) (by simp only [mvM,stM];omega)
      exact zio h2 (by simp only [mvM,stM];omega) (by simp only [mvM,stM];omega)
theorem zmw:Inv ⟨[],[],2⟩:=⟨by decide,fun v hv=>absurd hv List.not_mem_nil,fun i v hv _=>absurd (List.mem_of_getElem? hv) List.not_mem_nil,rfl⟩
theorem zlc {p:Pt} (h:shapeP p=true):Inv (buildM p):=zn3 p 0 1 ⟨[],[],2⟩ h zmw (by decide) (by decide)
end Go.Proofs.YtiplihojmfbjkaaGreat
