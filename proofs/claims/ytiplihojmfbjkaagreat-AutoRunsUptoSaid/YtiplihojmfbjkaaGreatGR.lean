/- Rows of plain values in place,where the order is open: read at an index. The lesser one,by another name. -/
import Derived.Test.YtiplihojmfbjkaaGreatVC
import Derived.Test.YtiplihojmfbjkaaGreatMC
import Derived.Test.YtiplihojmfbjkaaGreatMV
import Derived.Test.YtiplihojmfbjkaaGreatEH
import Derived.Test.YtiplihojmfbjkaaGreatH3
import Derived.Test.YtiplihojmfbjkaaGreatVF
import Derived.Test.YtiplihojmfbjkaaGreatWM
import Derived.Test.YtiplihojmfbjkaaGreatMB
import Derived.Test.YtiplihojmfbjkaaGreatMH
set_option maxRecDepth 100000
set_option maxHeartbeats 8000000
namespace Go.Proofs.YtiplihojmfbjkaaGreat
open Go.RowKit
section
variable {X:Ctx} {γ:Nat→Nat} {T:Nat→Value} {S:Nat→Nat→Prop} {w:World} {fr:Fr} {σ:Obs} {a:Act} {o:Oper} {d k m:Nat} {t e:TypeId} {i:TyI} {p:Operand} {rows:List (List D)} {x:Value}
theorem zlF (hT:Good X) (hr:Rel X γ T S w fr σ a) (ho:o.op=.load t p) (h1:ev fr p=some (.one (.pe k m 0 1))) (hk:look σ k=some (.arr e 1 rows)) (hs:rows[m]?=some [.v x]) (hi:X.Ty t=some i) (ha:i.agg=false):(execOp a.eval o).run X.P w=.ok (.value x) w:=by
  obtain ⟨inf,d0,e1,e2,e3,e4,e5,e6,_⟩:=(hT t i hi).get
  have hagg:(isAgg t).run X.P w=.ok false w:=by
    unfold isAgg
    rw [Sem.run_bind,run_underlying e2 w,← ha,← e6]
    cases d0<;>rfl
  have hcell:=zhg (hr.st.obj k _ hk) hs
  have hv:=zae hr h1
  cases hv with
  | one hv =>
    have hev:a.eval p=.pointer (some ⟨γ k,m,none⟩):=by
      have:a.eval p=.pointer (some ⟨γ k,m * 1+0,none⟩):=hv
      simpa using this
    simp only [execOp,ho,hev,Instr.loadAt,Instr.sureAddr,loadVar,load,Sem.run,Sem.run_bind,Sem.run_pure,Result.andThen_ok,hagg,hcell,Bool.false_eq_true,if_false]
end
section
variable {nt:Nat} {w0:W0} {S0:Nat→Nat→Prop} {fr:Fr} {σ:Obs} {ops:Array Oper} {o:Oper} {rest:List Oper} {Q:Fr→Obs→Prop} {d k lo n c m:Nat} {t el:TypeId} {i e:TyI} {xx ix p:Operand} {rows:List (List D)} {x:Value} {τ0 σB:Obs} {K:List Cr} {C0:Cons} {QD:Fr→Obs→Prop} {j0:Nat} {xs:Array Operand} {ats:Array TypeId} {z z':Int}
theorem mWix (h:DSeq (cx nt w0 S0) ops τ0 σB QD (j0+1) K C0 rest ((d,.one (.pe k (lo+z.toNat) 0 1)) :: fr)) (ho:o.op=.indexAddr t xx ix:=by rfl) (h1:ev (restr ops o fr) xx=some (.one (.win k lo n c 1)):=by rfl) (h2:(ev (restr ops o fr) ix).bind intV=some z:=by rfl) (h0:0≤z:=by omega) (hlt:z < n:=by omega) (hw:wantA ops o (restr ops o fr)=some true:=by rfl) (hdst:o.dst=some d:=by rfl) (hd:Nat.blt d nt=true:=by rfl)
    (hi:Ty t=some i:=by rfl) (htag:i.tag=2:=by rfl) (he:Ty i.elem=some e:=by rfl) (hsz:e.size=1:=by rfl) (hm:MenOk o K (.one (.pe k (lo+z.toNat) 0 1)):=by (repeat (first|exact zax _ _|refine zau (by first|exact Or.inl rfl|exact Or.inr rfl) ?_))):DSeq (cx nt w0 S0) ops τ0 σB QD j0 K C0 (o :: rest) fr :=
  zbS (X:=cx nt w0 S0) hdst hd hm (.inr ⟨hw,fun γ T S w a hr=>.inl (by
    obtain ⟨v,e1,e2⟩:=zlm (X:=cx nt w0 S0) zad hr ho h1 h2 h0 hlt hi htag he hsz
    exact ⟨v,w,e1,S,za3 S w,e2⟩)⟩) h
theorem mPelv (x:Value) (h:DSeq (cx nt w0 S0) ops τ0 σB QD (j0+1) K C0 rest ((d,.one (.d (.v x))) :: fr)) (hs:rows[m]?=some [.v x]) (ho:o.op=.load t p:=by rfl) (h1:ev (restr ops o fr) p=some (.one (.pe k m 0 1)):=by rfl) (hk:look σB k=some (.arr el 1 rows):=by rfl) (hw:wantA ops o (restr ops o fr)=some true:=by rfl) (hdst:o.dst=some d:=by rfl) (hd:Nat.blt d nt=true:=by rfl)
    (hx1:x.oneCell'=true:=by rfl) (hi:Ty t=some i:=by rfl) (ha:i.agg=false:=by rfl) (hm:MenOk o K (.one (.d (.v x))):=by (repeat (first|exact zax _ _|refine zau (by first|exact Or.inl rfl|exact Or.inr rfl) ?_))):DSeq (cx nt w0 S0) ops τ0 σB QD j0 K C0 (o :: rest) fr :=
  zbS (X:=cx nt w0 S0) hdst hd hm (.inr ⟨hw,fun _ _ S w _ hr=>.inl ⟨x,w,zlF (X:=cx nt w0 S0) zad hr ho h1 hk hs hi ha,S,za3 S w,.one (.v _ hx1)⟩⟩) h
theorem uMinY (hz:z=z') (h:RL (cx nt w0 S0) ops rest ((d,vI z') :: fr) σ Q) (_ho:o.op=.call { callee:=.builtin .min,args:=xs,argTypes:=ats }:=by rfl) (hdst:o.dst=some d:=by rfl) (hd:Nat.blt d nt=true:=by rfl) (hw:wantA ops o fr=some true:=by rfl) (hv:aop (cx nt w0 S0) o fr σ=some ⟨.one (.d (.v (.int .i64 z))),fr,σ⟩:=by rfl):RL (cx nt w0 S0) ops (o :: rest) fr σ Q :=
  RL_p (X:=cx nt w0 S0) zad hw hdst hd hv (hz ▸ h)
theorem mMinY (hz:z=z') (h:DSeq (cx nt w0 S0) ops τ0 σB QD (j0+1) K C0 rest ((d,vI z') :: fr)) (_ho:o.op=.call { callee:=.builtin .min,args:=xs,argTypes:=ats }:=by rfl) (hdst:o.dst=some d:=by rfl) (hd:Nat.blt d nt=true:=by rfl) (hw:wantA ops o (restr ops o fr)=some true:=by rfl) (hv:aop (cx nt w0 S0) o (restr ops o fr) σB=some ⟨.one (.d (.v (.int .i64 z))),restr ops o fr,σB⟩:=by rfl) (hm:MenOk o K (vI z'):=by (repeat (first|exact zax _ _|refine zau (by first|exact Or.inl rfl|exact Or.inr rfl) ?_))):DSeq (cx nt w0 S0) ops τ0 σB QD j0 K C0 (o :: rest) fr :=
  D_p (X:=cx nt w0 S0) zad hdst hd hw (hz ▸ hv) hm h
end
section
variable {X:Ctx} {fr:Fr} {σ:Obs} {Q:Exit→Fr→Obs→Prop}
def MidU (F:Fr) (G:Obs):Exit→Fr→Obs→Prop
  | .normal,fr,σ=>Sub F fr∧Sub G σ
  | _,_,_=>False
theorem zqg (n:Nat) (F:Fr) (G:Obs) {ops:Array Oper} {dr:Bool} {c c':Code} (h1:W X (.seq (.region n ops dr) c) fr σ (MidU F G)) (h2:W X c' F G Q):W X (.seq (.seq (.region n ops dr) c) c') fr σ Q :=
  zeo (h1.conseq fun e fr' σ' hq=>by
    cases e with
    | normal=>exact h2.weak hq.1 hq.2
    | _=>exact hq.elim)
end
theorem CallsN.toV {P:Program} {f:FuncId} {args:List VV} {x:VV} {R:VV→Obs→Prop} (h:CallsN P f args [] R) (hx:rawV x=true) (hR:∀ y σ1,R y σ1→y=x):CallsV P f args (.val x) :=
  ⟨h.ent,fun S w vs ha hlt=>by
    have hst:St (ictx P w (fun b=>b < w.heap.size) S (pinM [] (fun _=>0))) (fun _=>0) (fun _=>undef) S w [] :=
      ⟨.refl _ _,hlt,fun _ hb=>hb,fun _ _ hs=>.inl hs,⟨fun _ _ hs=>hs,.refl⟩,fun k o hk=>(by cases hk),fun k k' o o' hk=>(by cases hk)⟩
    refine (h.out _ _ _ S w vs hst ⟨ha.1,fun j y v hy hv=>ha.2 j y v hy hv _ _⟩).mono fun ex w' he=>?_
    obtain ⟨y,σ1,hy,v,γ',T',S',rfl,hs',hv⟩:=he
    obtain rfl:=hR y σ1 hy
    refine ⟨v,S',rfl,⟨hs'.keep.os,hs'.keep.tape,hs'.keep.output,hs'.keep.size,fun k hk=>hs'.keep.block k hk hk⟩,hs'.mon.1,fun b o hb=>?_,fun γ T=>zfP hx hv⟩
    rcases hs'.set b o hb with h1|h1
    · exact .inl h1
    · have h1:¬ b < w.heap.size:=h1
      exact .inr ⟨by omega,hs'.lt b o hb⟩⟩
end Go.Proofs.YtiplihojmfbjkaaGreat
namespace Go.Proofs.YtiplihojmfbjkaaGreat
open Go.RowKit
theorem zmh (s:ByteArray):CallsV Tryz.prog 138 [.one (.d (.v (.string s)))] (.val (vB (word s))) :=
  zdH (enters Tryz.func138 rfl rfl) fun S w vs ha=>by
    obtain ⟨v,rfl,h1⟩:=args1 ha
    rw [pv_v h1]
    exact zce s w
def okAt (l:List ByteArray) (i:Nat):Bool:=match l[i]? with
  | none=>true
  | some s=>word s&&(i==0 || match l[i - 1]? with
    | none=>true
    | some p=>Op.bytesLess p.toList s.toList)
def risingL (l:List ByteArray):Bool:=(List.range l.length).all (okAt l)
theorem zff {l:List ByteArray} {i:Nat} (hi:i < l.length) (h:okAt l i=false):risingL l=false:=by
  unfold risingL
  rw [List.all_eq_false]
  exact ⟨i,List.mem_range.2 hi,by simp [h]⟩
theorem zjh {l:List ByteArray} (h:∀ i,i < l.length→okAt l i=true):risingL l=true:=by
  unfold risingL
  rw [List.all_eq_true]
  exact fun i hi=>h i (List.mem_range.1 hi)
theorem zid (l:List ByteArray):CallsV Tryz.prog 139 [vL (l.map encS)] (.val (vB (risingL l))):=by
  have hlm:(l.map encS).length=l.length:=List.length_map _
  (refine zaa (Ty:=Ty) zad Tryz.func139 rfl rfl rfl fun w0 S0=>?_;refine enA ?_)
  repeat' (first|refine nx ?_|(refine nx2 ?_ ?_<;>intro hb))
  refine zay (α:=Nat) (fun i=>[(0,vL (l.map encS)),(5,vL (l.map encS)),(6,vI ((l.map encS).length:Int)),(7,vI i)]) (fun _=>[]) (fun i=>i≤l.length∧ ∀ j,j < i→okAt l j=true) (fun i=>l.length - i) 0 ⟨Nat.zero_le _,fun j hj=>absurd hj (Nat.not_lt_zero _)⟩ subA subA ?_
  intro k ⟨hk,hok⟩
  refine zbm (t:=0) (rows:=l.map encS) rfl rfl fun hlim=>?_
  rw [hlm] at hlim
  by_cases hlt:k < l.length
  · obtain ⟨s,hs⟩:∃ s,l[k]?=some s:=⟨_,List.getElem?_eq_getElem hlt⟩
    have hW:=zmh s
    cases hw:word s with
    | false =>
      rw [hw] at hW
      have hf:okAt l k=false:=by unfold okAt;rw [hs];simp [hw]
      repeat' (first|refine uC (hW) ?_|refine nx ?_|(refine nx2 ?_ ?_<;>intro hb))
      exact zab (by rfl) (by rw [zff hlt hf];rfl)
    | true =>
      rw [hw] at hW
      by_cases k0:k=0
      · have ht:okAt l k=true:=by unfold okAt;rw [hs];simp [hw,k0]
        repeat' (first|refine uC (hW) ?_|refine nx ?_|(refine nx2 ?_ ?_<;>intro hb))
        exact ⟨k+1,by omega,⟨by omega,fun j hj=>by
          rcases Nat.lt_succ_iff_lt_or_eq.1 hj with h|h
          · exact hok j h
          · rw [h];exact ht⟩,subA,subA⟩
      · have e1:(((k:Int) - 1).toNat)=k - 1:=by omega
        obtain ⟨p,hp⟩:∃ p,l[((k:Int) - 1).toNat]?=some p:=⟨_,by rw [e1];exact List.getElem?_eq_getElem (by omega)⟩
        repeat' (first|refine uC (hW) ?_|refine nx ?_|(refine nx2 ?_ ?_<;>intro hb))
        all_goals rw [e1] at hp
        · have hf:okAt l k=false:=by unfold okAt;rw [hs,hp];simp [hw,k0,hb]
          exact zab (by rfl) (by rw [zff hlt hf];rfl)
        · have ht:okAt l k=true:=by unfold okAt;rw [hs,hp];simp [hw,hb]
          exact ⟨k+1,by omega,⟨by omega,fun j hj=>by
            rcases Nat.lt_succ_iff_lt_or_eq.1 hj with h|h
            · exact hok j h
            · rw [h];exact ht⟩,subA,subA⟩
  · have hkl:k=l.length:=by omega
    subst hkl
    repeat' (first|refine nx ?_|(refine nx2 ?_ ?_<;>intro hb))
    exact zab (by rfl) (by rw [zjh hok];rfl)
end Go.Proofs.YtiplihojmfbjkaaGreat
namespace Go.Proofs.YtiplihojmfbjkaaGreat
open Go.RowKit
def propR (p:Pr):Bool:=p.val.kind != 0&&valueRight p.val
def elementR (name:ByteArray) (labels:List ByteArray) (props:List Pr):Bool:=props.all propR&&(word name&&risingL labels&&risingL (props.map (·.name)))
theorem zeA {name:ByteArray} {labels:List ByteArray} {props:List Pr} {p:Pr} (hp:p∈props) (h:propR p=false):elementR name labels props=false:=by
  unfold elementR
  rw [List.all_eq_false.2 ⟨p,hp,by simp [h]⟩]
  rfl
theorem zmI (l:List ByteArray):sized 1 (l.map encS)=true:=zai _
theorem zgr (name:ByteArray) (labels:List ByteArray) (props:List Pr) (hb:props.length≤1048576):CallsV Tryz.prog 91 [.one (.d (.v (.string name))),vL (labels.map encS),vL (props.map encPr)] (.val (vB (elementR name labels props))):=by
  have hlm:(props.map encPr).length=props.length:=List.length_map _
  have hW:=zmh name
  have hL:=zid labels
  have hP:=zid (props.map (·.name))
  (refine zaa (Ty:=Ty) zad Tryz.func91 rfl rfl rfl fun w0 S0=>?_;refine enA ?_)
  repeat' (first|refine nx ?_|(refine nx2 ?_ ?_<;>intro hb))
  refine uNil 7 100 9 1 ?_
  refine zay (α:=Nat) (fun i=>[(0,.one (.d (.v (.string name)))),(1,vL (labels.map encS)),(7,.one (.own 100 (((props.take i).map (·.name)).map encS))),(10,vL (props.map encPr)),(11,vI ((props.map encPr).length:Int)),(12,vI i)]) (fun _=>[(100,.tok 9 1)]) (fun i=>i≤props.length∧ ∀ p∈props.take i,propR p=true) (fun i=>props.length - i) 0 ⟨Nat.zero_le _,fun p hp=>absurd hp (by simp)⟩ subA subA ?_
  intro i ⟨hi,hok⟩
  by_cases hlt:i < props.length
  · obtain ⟨p,hp⟩:∃ p,props[i]?=some p:=⟨_,List.getElem?_eq_getElem hlt⟩
    have hR:=zbE p.val
    have hz:=zmI ((props.take i).map (·.name))
    have hnx:((props.take i).map (·.name)).map encS++[encS p.name]=((props.take (i+1)).map (·.name)).map encS:=by rw [List.take_add_one,hp,Option.toList_some,List.map_append,List.map_append];rfl
    by_cases h0:p.val.kind=0
    · have hf:propR p=false:=by unfold propR;simp [h0]
      repeat' (first|refine nx ?_|(refine nx2 ?_ ?_<;>intro hb))
      exact zab (by rfl) (by rw [zeA (List.mem_of_getElem? hp) hf];rfl)
    cases hr:valueRight p.val with
    | false =>
      rw [hr] at hR
      have hf:propR p=false:=by unfold propR;simp [hr]
      repeat' (first|refine uC (hR) ?_|refine nx ?_|(refine nx2 ?_ ?_<;>intro hb))
      exact zab (by rfl) (by rw [zeA (List.mem_of_getElem? hp) hf];rfl)
    | true =>
      rw [hr] at hR
      have ht:propR p=true:=by unfold propR;simp [h0,hr]
      repeat' (first|refine uC (hR) ?_|refine nx ?_|(refine nx2 ?_ ?_<;>intro hb))
      exact ⟨i+1,by omega,⟨by omega,fun q hq=>by
        rw [List.take_add_one,hp,Option.toList_some] at hq
        rcases List.mem_append.1 hq with h|h
        · exact hok q h
        · rw [List.mem_singleton.1 h];exact ht⟩,subA,subA⟩
  · have hil:i=props.length:=by omega
    subst hil
    rw [List.take_length] at hok
    rw [List.take_length]
    have hall:props.all propR=true:=List.all_eq_true.2 hok
    have e:elementR name labels props=(word name&&risingL labels&&risingL (props.map (·.name))):=by unfold elementR;rw [hall];rfl
    repeat' (first|(refine isCl ?_;first|refine uC (hW) ?_|refine uC (hL) ?_|refine uC (hP) ?_)|refine nx ?_|(refine nx2 ?_ ?_<;>intro hb))
    · rename_i h1
      exact zab (by rfl) (by rw [e,h1,hb];rfl)
    · rename_i h1
      exact zab (by rfl) (by rw [e,h1,hb];rfl)
    · exact zab (by rfl) (by rw [e,hb];rfl)
end Go.Proofs.YtiplihojmfbjkaaGreat
namespace Go.Proofs.YtiplihojmfbjkaaGreat
open Go.RowKit
noncomputable def nmap {α:Type} (f:α→ByteArray) (l:List α):Nat→List (Value × VV)
  | 0=>[]
  | k+1=>match l[k]? with
    | some q=>insM (.string (f q)) (vI k) (nmap f l k)
    | none=>nmap f l k
theorem zhB {α:Type} {f:α→ByteArray} {l:List α} {k:Nat} {q:α} (h:l[k]?=some q):nmap f l (k+1)=insM (.string (f q)) (vI k) (nmap f l k):=by
  simp only [nmap,h]
theorem zeN {α:Type} {f:α→ByteArray} {l:List α}:∀ (k:Nat) (p:Value × VV),p∈nmap f l k→ ∃ s:ByteArray,p.1=.string s
  | 0,p,h=>by simp [nmap] at h
  | k+1,p,h=>by
    simp only [nmap] at h
    split at h
    · rcases zhR h with h|h
      · exact ⟨_,by rw [h]⟩
      · exact zeN k p h
    · exact zeN k p h
theorem zj5 {α:Type} {f:α→ByteArray} {l:List α} (k:Nat):∀ p∈nmap f l k,MapKept.IsKey .string p.1:=fun p hp=>by
  obtain ⟨s,h⟩:=zeN k p hp
  rw [h];trivial
noncomputable def idxS (g:Gr) (i j:Nat):Obs:=[(1000,.obj 166 [.d (.sl (g.nodes.map encNd)),.d (.sl (g.edges.map encEd)),.mr 1001,.mr 1002,.d (.sl [])]),(1001,.mp (nmap Nd.name g.nodes i)),(1002,.mp (nmap Ed.name g.edges j))]
theorem zmn (g:Gr):CallsM Tryz.prog 90 [.dat (encG g)] [] (.one (.po 1000 0)) (idxS g g.nodes.length g.edges.length):=by
  have hln:(g.nodes.map encNd).length=g.nodes.length:=List.length_map _
  have hle:(g.edges.map encEd).length=g.edges.length:=List.length_map _
  unfold encG idxS
  (refine zav (Ty:=Ty) zad Tryz.func90 rfl rfl rfl (by rfl) fun w0 S0 hp=>?_;refine enA ?_)
  repeat' (first|(refine isRL ?_;first|refine uMkM ?_|refine uBdC ?_|refine uBxG (cs':=[.d (.sl (g.nodes.map encNd)),.d (.sl (g.edges.map encEd)),.mr 9,.mr 10,.d (.sl [])]) ?_)|refine nx ?_|(refine nx2 ?_ ?_<;>intro hb))
  refine wRn 12 1000 (zaH (hp 1000 rfl)) ?_
  refine wRn 9 1001 (zaH (hp 1001 rfl)) ?_
  refine wRn 10 1002 (zaH (hp 1002 rfl)) ?_
  refine zay (α:=Nat) (fun i=>[(3,.one (.po 1000 0)),(1,.one (.po 1 0)),(14,vL (g.nodes.map encNd)),(15,vI ((g.nodes.map encNd).length:Int)),(16,vI i)]) (fun i=>[(1,.box 25 [.sl (g.nodes.map encNd),.sl (g.edges.map encEd)]),(1000,.obj 166 [.d (.sl (g.nodes.map encNd)),.d (.sl (g.edges.map encEd)),.mr 1001,.mr 1002,.d (.sl [])]),(1001,.mp (nmap Nd.name g.nodes i)),(1002,.mp [])]) (fun i=>i≤g.nodes.length) (fun i=>g.nodes.length - i) 0 (Nat.zero_le _) subA subA ?_
  intro i hi
  refine zbm (t:=14) (rows:=g.nodes.map encNd) rfl rfl fun hlim=>?_
  rw [hln] at hlim
  by_cases hlt:i < g.nodes.length
  · obtain ⟨q,hq⟩:∃ q,g.nodes[i]?=some q:=⟨_,List.getElem?_eq_getElem hlt⟩
    have hks:=zj5 (f:=Nd.name) (l:=g.nodes) i
    have hnx:nmap Nd.name g.nodes (i+1)=insM (.string q.name) (vI i) (nmap Nd.name g.nodes i):=zhB hq
    repeat' (first|refine uMuM hks ?_|refine nx ?_|(refine nx2 ?_ ?_<;>intro hb))
    exact ⟨i+1,by omega,by omega,subA,(by simp only [hnx];exact subA)⟩
  · obtain rfl:i=g.nodes.length:=by omega
    repeat' (first|refine nx ?_|(refine nx2 ?_ ?_<;>intro hb))
    refine zay (α:=Nat) (fun i=>[(3,.one (.po 1000 0)),(1,.one (.po 1 0)),(30,vL (g.edges.map encEd)),(31,vI ((g.edges.map encEd).length:Int)),(32,vI i)]) (fun i=>[(1,.box 25 [.sl (g.nodes.map encNd),.sl (g.edges.map encEd)]),(1000,.obj 166 [.d (.sl (g.nodes.map encNd)),.d (.sl (g.edges.map encEd)),.mr 1001,.mr 1002,.d (.sl [])]),(1001,.mp (nmap Nd.name g.nodes g.nodes.length)),(1002,.mp (nmap Ed.name g.edges i))]) (fun i=>i≤g.edges.length) (fun i=>g.edges.length - i) 0 (Nat.zero_le _) subA subA ?_
    intro j hj
    refine zbm (t:=30) (rows:=g.edges.map encEd) rfl rfl fun hlim2=>?_
    rw [hle] at hlim2
    by_cases hjt:j < g.edges.length
    · obtain ⟨q,hq⟩:∃ q,g.edges[j]?=some q:=⟨_,List.getElem?_eq_getElem hjt⟩
      have hks:=zj5 (f:=Ed.name) (l:=g.edges) j
      have hnx:nmap Ed.name g.edges (j+1)=insM (.string q.name) (vI j) (nmap Ed.name g.edges j):=zhB hq
      repeat' (first|refine uMuM hks ?_|refine nx ?_|(refine nx2 ?_ ?_<;>intro hb))
      exact ⟨j+1,by omega,by omega,subA,(by simp only [hnx];exact subA)⟩
    · obtain rfl:j=g.edges.length:=by omega
      repeat' (first|refine nx ?_|(refine nx2 ?_ ?_<;>intro hb))
      exact zbt (by rfl) rfl ghasA
theorem is_m (g:Gr) (n:Int):CallsM Tryz.prog 92 [.one (.po 1000 0),vI n] (idxS g g.nodes.length g.edges.length) (vB (decide (0≤n∧n < (g.nodes.length:Int)))) (idxS g g.nodes.length g.edges.length):=by
  have hln:(g.nodes.map encNd).length=g.nodes.length:=List.length_map _
  unfold idxS
  (refine zav (Ty:=Ty) zad Tryz.func92 rfl rfl rfl (by rfl) fun w0 S0 hp=>?_;refine enA ?_)
  by_cases h0:0≤n
  · by_cases h1:n < (g.nodes.length:Int)
    · repeat' (first|refine nx ?_|(refine nx2 ?_ ?_<;>intro hb))
      exact zbt (by rfl) (by rw [decide_eq_true (And.intro h0 h1)]) ghasA
    · repeat' (first|refine nx ?_|(refine nx2 ?_ ?_<;>intro hb))
      exact zbt (by rfl) (by rw [decide_eq_false (fun h=>h1 h.2)]) ghasA
  · repeat' (first|refine nx ?_|(refine nx2 ?_ ?_<;>intro hb))
    exact zbt (by rfl) (by rw [decide_eq_false (fun h=>h0 h.1)]) ghasA
end Go.Proofs.YtiplihojmfbjkaaGreat
namespace Go.Proofs.YtiplihojmfbjkaaGreat
open Go.RowKit
def nodeR (n:Nd):Bool:=elementR n.name n.labels n.props
def inN (g:Gr) (n:Int):Bool:=decide (0≤n∧n < (g.nodes.length:Int))
def edgeR (g:Gr) (e:Ed):Bool:=elementR e.name e.labels e.props&&inN g e.src&&inN g e.dst
noncomputable def namesR (g:Gr):Bool:=decide ((nmap Nd.name g.nodes g.nodes.length).length=g.nodes.length)&&decide ((nmap Ed.name g.edges g.edges.length).length=g.edges.length)
noncomputable def graphRight (g:Gr):Int:=if 1000 < g.nodes.length∨1000 < g.edges.length then 6 else if (namesR g&&g.nodes.all nodeR&&g.edges.all (edgeR g))=true then 0 else 1
theorem zig {α:Type} {f:α→Bool} {l:List α} {i:Nat} {q:α} (h:l[i]?=some q):(l.take (i+1)).all f=((l.take i).all f&&f q):=by
  rw [List.take_add_one,h,Option.toList_some,List.all_append];simp
theorem zeG (g:Gr) (hN:∀ n∈g.nodes,n.props.length≤1048576) (hE:∀ n∈g.edges,n.props.length≤1048576):CallsV Tryz.prog 45 [.dat (encG g)] (.val (vI (graphRight g))):=by
  have hln:(g.nodes.map encNd).length=g.nodes.length:=List.length_map _
  have hle:(g.edges.map encEd).length=g.edges.length:=List.length_map _
  have hI:=zmn g
  have hIs:=is_m g
  unfold idxS at hI hIs
  generalize hm1:nmap Nd.name g.nodes g.nodes.length=M1 at hI hIs
  generalize hm2:nmap Ed.name g.edges g.edges.length=M2 at hI hIs
  have hr:graphRight g=if 1000 < g.nodes.length∨1000 < g.edges.length then 6 else if ((decide (M1.length=g.nodes.length)&&decide (M2.length=g.edges.length))&&g.nodes.all nodeR&&g.edges.all (edgeR g))=true then 0 else 1:=by unfold graphRight namesR;rw [hm1,hm2]
  rw [hr]
  unfold encG at hI ⊢
  skip
  refine zbj (Ty:=Ty) zad Tryz.func45 rfl rfl rfl fun w0 S0 _ hp=>?_
  refine enA ?_
  by_cases h1:1000 < g.nodes.length
  · rw [if_pos (.inl h1)]
    repeat' (first|refine nx ?_|(refine nx2 ?_ ?_<;>intro hb))
    exact zab (by rfl) rfl
  by_cases h2:1000 < g.edges.length
  · rw [if_pos (.inr h2)]
    repeat' (first|refine nx ?_|(refine nx2 ?_ ?_<;>intro hb))
    exact zab (by rfl) rfl
  rw [if_neg (fun h=>h.elim h1 h2)]
  by_cases a12:M1.length=g.nodes.length∧M2.length=g.edges.length
  rotate_left
  · have hno:(decide (M1.length=g.nodes.length)&&decide (M2.length=g.edges.length))=false:=by rw [← Bool.decide_and];exact decide_eq_false a12
    rw [hno]
    have hnc:M1.length≠g.nodes.length∨(M1.length=g.nodes.length∧M2.length≠g.edges.length):=by
      by_cases a1:M1.length=g.nodes.length
      · exact .inr ⟨a1,fun a2=>a12 ⟨a1,a2⟩⟩
      · exact .inl a1
    clear hno a12 hIs hr
    rcases hnc with a1 | ⟨a1,a2⟩
    all_goals
      repeat' (first|refine uM hI ?_ (hfr:=fun k _=>zaH (hp k))|refine mLenM ?_ (hn:=rfl)|refine nx ?_|(refine nx2 ?_ ?_<;>intro hb))
      refine zay (α:=Nat) (fun i=>[(3,.one (.po 1000 0)),(1,.one (.po 1 0)),(4,vB false),(42,vL (g.nodes.map encNd)),(43,vI ((g.nodes.map encNd).length:Int)),(44,vI i)]) (fun _=>[(1,.box 25 [.sl (g.nodes.map encNd),.sl (g.edges.map encEd)]),(1000,.obj 166 [.d (.sl (g.nodes.map encNd)),.d (.sl (g.edges.map encEd)),.mr 1001,.mr 1002,.d (.sl [])]),(1001,.mp M1),(1002,.mp M2)]) (fun i=>i≤g.nodes.length) (fun i=>g.nodes.length - i) 0 (Nat.zero_le _) subA subA ?_
      intro i hi
      by_cases hlt:i < g.nodes.length
      · obtain ⟨q,hq⟩:∃ q,g.nodes[i]?=some q:=⟨_,List.getElem?_eq_getElem hlt⟩
        repeat' (first|refine nx ?_|(refine nx2 ?_ ?_<;>intro hb))
        exact ⟨i+1,by omega,by omega,subA,subA⟩
      · obtain rfl:i=g.nodes.length:=by omega
        repeat' (first|refine nx ?_|(refine nx2 ?_ ?_<;>intro hb))
        refine zay (α:=Nat) (fun i=>[(3,.one (.po 1000 0)),(1,.one (.po 1 0)),(4,vB false),(60,vL (g.edges.map encEd)),(61,vI ((g.edges.map encEd).length:Int)),(62,vI i)]) (fun _=>[(1,.box 25 [.sl (g.nodes.map encNd),.sl (g.edges.map encEd)]),(1000,.obj 166 [.d (.sl (g.nodes.map encNd)),.d (.sl (g.edges.map encEd)),.mr 1001,.mr 1002,.d (.sl [])]),(1001,.mp M1),(1002,.mp M2)]) (fun i=>i≤g.edges.length) (fun i=>g.edges.length - i) 0 (Nat.zero_le _) subA subA ?_
        intro j hj
        by_cases hjt:j < g.edges.length
        · obtain ⟨q,hq⟩:∃ q,g.edges[j]?=some q:=⟨_,List.getElem?_eq_getElem hjt⟩
          repeat' (first|refine nx ?_|(refine nx2 ?_ ?_<;>intro hb))
          exact ⟨j+1,by omega,by omega,subA,subA⟩
        · obtain rfl:j=g.edges.length:=by omega
          repeat' (first|refine nx ?_|(refine nx2 ?_ ?_<;>intro hb))
          exact zab (by rfl) rfl
  obtain ⟨a1,a2⟩:=a12
  rw [show (decide (M1.length=g.nodes.length)&&decide (M2.length=g.edges.length))=true by simp [a1,a2]]
  repeat' (first|refine uM hI ?_ (hfr:=fun k _=>zaH (hp k))|refine mLenM ?_ (hn:=rfl)|refine nx ?_|(refine nx2 ?_ ?_<;>intro hb))
  refine zay (α:=Nat) (fun i=>[(3,.one (.po 1000 0)),(1,.one (.po 1 0)),(4,vB ((g.nodes.take i).all nodeR)),(42,vL (g.nodes.map encNd)),(43,vI ((g.nodes.map encNd).length:Int)),(44,vI i)]) (fun _=>[(1,.box 25 [.sl (g.nodes.map encNd),.sl (g.edges.map encEd)]),(1000,.obj 166 [.d (.sl (g.nodes.map encNd)),.d (.sl (g.edges.map encEd)),.mr 1001,.mr 1002,.d (.sl [])]),(1001,.mp M1),(1002,.mp M2)]) (fun i=>i≤g.nodes.length) (fun i=>g.nodes.length - i) 0 (Nat.zero_le _) subA subA ?_
  intro i hi
  by_cases hlt:i < g.nodes.length
  · obtain ⟨q,hq⟩:∃ q,g.nodes[i]?=some q:=⟨_,List.getElem?_eq_getElem hlt⟩
    have hEl:=zgr q.name q.labels q.props (hN q (List.mem_of_getElem? hq))
    have hnx:=zig (f:=nodeR) hq
    cases hA:(g.nodes.take i).all nodeR with
    | false =>
      rw [hA] at hnx
      repeat' (first|refine nx ?_|(refine nx2 ?_ ?_<;>intro hb))
      exact ⟨i+1,by omega,by omega,(by simp only [hnx];exact subA),subA⟩
    | true =>
      rw [hA] at hnx
      repeat' (first|refine uC (hEl) ?_|refine mC (hEl) ?_|refine nx ?_|(refine nx2 ?_ ?_<;>intro hb))
      exact ⟨i+1,by omega,by omega,(by simp only [hnx];exact subA),subA⟩
  · obtain rfl:i=g.nodes.length:=by omega
    rw [List.take_length]
    repeat' (first|refine nx ?_|(refine nx2 ?_ ?_<;>intro hb))
    refine zay (α:=Nat) (fun i=>[(3,.one (.po 1000 0)),(1,.one (.po 1 0)),(4,vB ((g.edges.take i).all (edgeR g)&&g.nodes.all nodeR)),(60,vL (g.edges.map encEd)),(61,vI ((g.edges.map encEd).length:Int)),(62,vI i)]) (fun _=>[(1,.box 25 [.sl (g.nodes.map encNd),.sl (g.edges.map encEd)]),(1000,.obj 166 [.d (.sl (g.nodes.map encNd)),.d (.sl (g.edges.map encEd)),.mr 1001,.mr 1002,.d (.sl [])]),(1001,.mp M1),(1002,.mp M2)]) (fun i=>i≤g.edges.length) (fun i=>g.edges.length - i) 0 (Nat.zero_le _) subA subA ?_
    intro j hj
    by_cases hjt:j < g.edges.length
    · obtain ⟨q,hq⟩:∃ q,g.edges[j]?=some q:=⟨_,List.getElem?_eq_getElem hjt⟩
      have hEl:=zgr q.name q.labels q.props (hE q (List.mem_of_getElem? hq))
      have hnx:((g.edges.take (j+1)).all (edgeR g)&&g.nodes.all nodeR)=(((g.edges.take j).all (edgeR g)&&g.nodes.all nodeR)&&edgeR g q):=by
        rw [zig hq]
        cases (g.edges.take j).all (edgeR g)<;>cases edgeR g q<;>cases g.nodes.all nodeR<;>rfl
      have h3:=hIs q.src
      have h4:=hIs q.dst
      have hed:edgeR g q=(elementR q.name q.labels q.props&&inN g q.src&&inN g q.dst):=rfl
      change CallsM _ _ _ _ (vB (inN g q.src)) _ at h3
      change CallsM _ _ _ _ (vB (inN g q.dst)) _ at h4
      generalize hA:((g.edges.take j).all (edgeR g)&&g.nodes.all nodeR)=A at hnx
      generalize elementR q.name q.labels q.props=e1 at hEl hed
      generalize inN g q.src=e2 at h3 hed
      generalize inN g q.dst=e3 at h4 hed
      rw [hed] at hnx
      cases A<;>cases e1<;>cases e2
      all_goals
        repeat' (first|(refine isCl ?_;first|refine uC (hEl) ?_|refine uM (h3) ?_|refine uM (h4) ?_)|refine mC (hEl) ?_|refine nx ?_|(refine nx2 ?_ ?_<;>intro hb))
        exact ⟨j+1,by omega,by omega,(by simp only [hnx];exact subA),subA⟩
    · obtain rfl:j=g.edges.length:=by omega
      rw [List.take_length]
      cases hf:(g.edges.all (edgeR g)&&g.nodes.all nodeR) with
      | false =>
        repeat' (first|refine nx ?_|(refine nx2 ?_ ?_<;>intro hb))
        exact zab (by rfl) (by rw [if_neg (by rw [Bool.and_eq_false_iff] at hf;rcases hf with h|h<;>simp [h])];rfl)
      | true =>
        repeat' (first|refine nx ?_|(refine nx2 ?_ ?_<;>intro hb))
        exact zab (by rfl) (by rw [Bool.and_eq_true] at hf;rw [if_pos (by simp [hf.1,hf.2])];rfl)
end Go.Proofs.YtiplihojmfbjkaaGreat
