/- The walk of label.Has. -/
import Derived.Test.YtiplihojmfbjkaaGreatH3
import Derived.Test.YtiplihojmfbjkaaGreatWS
import Derived.Test.YtiplihojmfbjkaaGreatWD
set_option maxRecDepth 100000
set_option maxHeartbeats 1000000
namespace Go.Proofs.YtiplihojmfbjkaaGreat
open Go.RowKit
theorem zhK {e:E} (h:labelRight e=true) (hk:e.kind≠0):term 50 e=true:=by
  unfold labelRight at h;rwa [if_neg hk] at h
theorem zlI {S S':Nat→Prop} {w0:World} {e:E} {cs:List Value} (h:RE S w0 e cs) {l:List ByteArray} {A:Option Addr} {c:Nat} (hs:SL S' w0 l A c):∀ w,Below w0.heap.size w0 w→
    Calls Tryz.prog 78 #[.slice A l.length c,.agg cs.toArray] w (RBool (hasL l e) w):=by
  intro w hb
  obtain ⟨A',c',css,f,hl⟩:=h.open_
  have hlen:=h.length
  have hnew:=zho w cs 31 (0,0)
  have k0:=(zbd w cs 31 (0,0) 0).trans f.c0
  have hb1:Below w.heap.size w (w.alloc (.cells cs.toArray 31)):=zat (Below.refl _ _) _
  have hbw:=zag hb hb1
  have HR:=Lib.hid (zdn h _ hbw)
  by_cases hr:labelRight e=true
  · by_cases hk:e.kind=0
    · have hkb:(e.kind==0)=true:=by rw [beq_iff_eq];exact hk
      have hres:Hid (hasL l e=true):=by show _=_;unfold hasL;rw [hr,hkb];rfl
      have hrr:=Lib.hid hr
      clear h f hl hs hr hk
      generalize l.length=n at *
      go_enter Tryz.func78,Tryz.ntmps78
      go_wp2_with (first|(refine za4 rfl 31 _ rfl _ rfl cs hnew _ Tryz.underlying31 rfl 7 (by kernel_rfl) hlen ?_)|(go_at_call 127;(with_reducible refine HR.out.mono ?_);rintro e2 w2 ⟨rfl,hb2⟩;rw [hrr.out];have hb3:=zag hb1 hb2;have k02:=zac hb2 k0))
      go_ret
      exact ⟨zaC hres.out.symm,hb3⟩
    · have hkb:(e.kind==0)=false:=by rw [beq_eq_false_iff_ne];exact hk
      have hres:Hid (hasL l e=holdsN 50 l e):=by show _=_;unfold hasL;rw [hr,hkb];rfl
      have HH:=Lib.hid (zjr 50 h (zhK hr hk) hs)
      have hrr:=Lib.hid hr
      clear h f hl hs hr hk
      generalize holdsN 50 l e=r at *
      generalize l.length=n at *
      go_enter Tryz.func78,Tryz.ntmps78
      go_wp2_with (first|(refine za4 rfl 31 _ rfl _ rfl cs hnew _ Tryz.underlying31 rfl 7 (by kernel_rfl) hlen ?_)|(refine zdY (by rfl) 31 _ rfl _ rfl cs hcell2 _ Tryz.underlying31 rfl 7 (by kernel_rfl) hlen ?_)|(go_at_call 127;(with_reducible refine HR.out.mono ?_);rintro e2 w2 ⟨rfl,hb2⟩;rw [hrr.out];have hb3:=zag hb1 hb2;have k02:=zac hb2 k0;have hcell2:=hnew.mono hb2;have H3:=Lib.hid (HH.out w2 (zag hbw hb2)))|(go_at_call 128;(with_reducible refine H3.out.mono ?_);rintro e3 w3 ⟨rfl,hb4⟩;have hb5:=zag hb3 hb4))
      go_ret
      exact ⟨zaC hres.out.symm,hb5⟩
  · have hr':labelRight e=false:=by simpa using hr
    have hres:Hid (hasL l e=false):=by show _=_;unfold hasL;rw [hr'];rfl
    have hrr:=Lib.hid hr'
    clear h f hl hs hr hr'
    generalize l.length=n at *
    go_enter Tryz.func78,Tryz.ntmps78
    go_wp2_with (first|(refine za4 rfl 31 _ rfl _ rfl cs hnew _ Tryz.underlying31 rfl 7 (by kernel_rfl) hlen ?_)|(go_at_call 127;(with_reducible refine HR.out.mono ?_);rintro e2 w2 ⟨rfl,hb2⟩;rw [hrr.out];have hb3:=zag hb1 hb2))
    go_ret
    exact ⟨zaC hres.out.symm,hb3⟩
end Go.Proofs.YtiplihojmfbjkaaGreat
namespace Go.Proofs.YtiplihojmfbjkaaGreat
open Go.RowKit
section
variable {S:Nat→Nat→Prop} {w:World}
theorem zmK {l:List ByteArray} {v:Value} (h:RD S w (.sl (l.map encS)) v):∃ A c,v=.slice A l.length c∧SL (fun k=>k < w.heap.size) w l A c:=by
  generalize hrows:l.map encS=rows at h
  cases h with
  | sl _ A c sz vs cap lim nil row val spot mem =>
    subst hrows
    rw [List.length_map] at cap lim
    have hsz:∀ i,i < l.length→sz=1:=fun i hi=>by
      rw [← row i (encS l[i]) (by rw [List.getElem?_map,List.getElem?_eq_getElem hi];rfl)];rfl
    refine ⟨A,c,by rw [List.length_map],cap,lim,fun h=>by simpa using nil h,fun a ha h0=>?_,fun a ha i s hs=>?_⟩
    · have hlt:=World.block_lt_of_cell? w ⟨a.block,_,none⟩ (mem a ha 0 (by simpa using h0) 0 (by rw [hsz 0 h0];omega)).2
      exact hlt
    · have hi:=(List.getElem?_eq_some_iff.1 hs).1
      have hm:=(mem a ha i (by simpa using hi) 0 (by rw [hsz i hi];omega)).2
      have hv:=rd_v (val i (encS s) (by rw [List.getElem?_map,hs];rfl) 0 _ rfl)
      have hsp:=spot a ha (by simp;omega)
      obtain ⟨b,off,sp⟩:=a
      simp only at hsp hm
      subst hsp
      rw [Addr.add_lit,← hv,← hm,hsz i hi,Nat.mul_one,Nat.add_zero]
end
theorem zpE (l:List ByteArray) (e:E):CallsV Tryz.prog 78 [vL (l.map encS),.dat (encE e)] (.val (vB (hasL l e))) :=
  zdH (enters Tryz.func78 rfl rfl) fun S w vs h=>by
    obtain ⟨v,u,rfl,h1,h2⟩:=args2 h
    obtain ⟨A,c,rfl,h3⟩:=zmK (zp0 h1)
    obtain ⟨us,rfl,h4⟩:=zk5 h2
    exact zlI (ziX e us h4) h3 w (Below.refl _ _)
end Go.Proofs.YtiplihojmfbjkaaGreat
namespace Go.Proofs.YtiplihojmfbjkaaGreat
open Go.RowKit
section
variable {w0:W0} {S0:Nat→Nat→Prop} {nt:Nat} {fr fr1:Fr} {σ σ1:Obs} {o:Oper} {ops:Array Oper} {rest:List Oper} {Q:Fr→Obs→Prop} {d k n:Nat} {x:VV} {xx ix p:Operand} {t ty:TypeId} {i e:TyI} {cs ds:List D} {rows news:List (List D)} {ps:Array (Nat × Operand)}
variable {τ0 σB:Obs} {K:List Cr} {C:Cons} {QD:Fr→Obs→Prop} {j:Nat}
theorem uHd {α:Type} {f:α→List D} {l:List α} {a:Int} {lo':Operand} (h:RL (cx nt w0 S0) ops rest ((d,vL ((l.drop a.toNat).map f)) :: fr) σ Q) (ho:o.op=.slice t xx (some lo') none none:=by rfl) (hdst:o.dst=some d:=by rfl) (hd:Nat.blt d nt=true:=by rfl) (hw:wantA ops o fr=some true:=by rfl)
    (h1:(ev fr xx).bind rowsV=some (l.map f):=by rfl) (hns:(ev fr xx).bind strV=none:=by rfl) (h2:(ev fr lo').bind intV=some a:=by rfl) (h3:Ty t=some i:=by rfl) (h4:Ty i.elem=some e:=by rfl) (htag:i.tag=2:=by rfl) (h5:0≤a:=by first|omega|(simp only [List.length_map,List.length_append,List.length_take,List.length_drop,List.length_cons,List.length_nil];omega)) (h6:a≤(l.map f).length:=by first|omega|(simp only [List.length_map,List.length_append,List.length_take,List.length_drop,List.length_cons,List.length_nil];omega)) (h7:sized e.size (l.map f)=true:=by first|rfl|exact zaY _|exact zai _|exact zaU _|assumption|exact zaK _ (zai _)|exact zaJ _ (zai _)|exact zah (by assumption) rfl|exact zah (zah rfl (zai _)) rfl|exact zah rfl (zai _)|(simp only [sized,List.all_append,List.all_cons,List.all_nil,List.all_map,Bool.and_true,Bool.and_self,zal];rfl)|(simp [sized,zal,encS];done)|simp [sized,zan]):RL (cx nt w0 S0) ops (o :: rest) fr σ Q :=
  RL_p (X:=cx nt w0 S0) zad hw hdst hd (by
    obtain ⟨v,hv1,hv2⟩:=Option.bind_eq_some_iff.1 h1
    rw [hv1,Option.bind_some] at hns
    have h2':optI fr (some lo')=some (some a):=by simp only [optI,h2,Option.map_some]
    have h3':(cx nt w0 S0).Ty t=some i:=h3
    have h4':(cx nt w0 S0).Ty i.elem=some e:=h4
    unfold aop
    simp only [ho,h3',h4',hv1,h2',show optI fr none=some none from rfl,hns,hv2,Option.getD_some,Option.getD_none,Int.toNat_natCast]
    rw [if_pos ⟨htag,h5,h6,Int.le_refl _,h7⟩,List.take_length,← List.map_drop]) h
theorem mHd {α:Type} {f:α→List D} {l:List α} {a:Int} {lo':Operand} (h:DSeq (cx nt w0 S0) ops τ0 σB QD (j+1) K C rest ((d,vL ((l.drop a.toNat).map f)) :: fr)) (ho:o.op=.slice t xx (some lo') none none:=by rfl) (hdst:o.dst=some d:=by rfl) (hd:Nat.blt d nt=true:=by rfl) (hw:wantA ops o (restr ops o fr)=some true:=by rfl)
    (h1:(ev (restr ops o fr) xx).bind rowsV=some (l.map f):=by rfl) (hns:(ev (restr ops o fr) xx).bind strV=none:=by rfl) (h2:(ev (restr ops o fr) lo').bind intV=some a:=by rfl) (h3:Ty t=some i:=by rfl) (h4:Ty i.elem=some e:=by rfl) (htag:i.tag=2:=by rfl) (h5:0≤a:=by first|omega|(simp only [List.length_map,List.length_append,List.length_take,List.length_drop,List.length_cons,List.length_nil];omega)) (h6:a≤(l.map f).length:=by first|omega|(simp only [List.length_map,List.length_append,List.length_take,List.length_drop,List.length_cons,List.length_nil];omega)) (h7:sized e.size (l.map f)=true:=by first|rfl|exact zaY _|exact zai _|exact zaU _|assumption|exact zaK _ (zai _)|exact zaJ _ (zai _)|exact zah (by assumption) rfl|exact zah (zah rfl (zai _)) rfl|exact zah rfl (zai _)|(simp only [sized,List.all_append,List.all_cons,List.all_nil,List.all_map,Bool.and_true,Bool.and_self,zal];rfl)|(simp [sized,zal,encS];done)|simp [sized,zan]) (hm:MenOk o K (vL ((l.drop a.toNat).map f)):=by (repeat (first|exact zax _ _|refine zau (by first|exact Or.inl rfl|exact Or.inr rfl) ?_))):DSeq (cx nt w0 S0) ops τ0 σB QD j K C (o :: rest) fr :=
  D_p (X:=cx nt w0 S0) zad hdst hd hw (by
    obtain ⟨v,hv1,hv2⟩:=Option.bind_eq_some_iff.1 h1
    rw [hv1,Option.bind_some] at hns
    have h2':optI (restr ops o fr) (some lo')=some (some a):=by simp only [optI,h2,Option.map_some]
    have h3':(cx nt w0 S0).Ty t=some i:=h3
    have h4':(cx nt w0 S0).Ty i.elem=some e:=h4
    unfold aop
    simp only [ho,h3',h4',hv1,h2',show optI (restr ops o fr) none=some none from rfl,hns,hv2,Option.getD_some,Option.getD_none,Int.toNat_natCast]
    rw [if_pos ⟨htag,h5,h6,Int.le_refl _,h7⟩,List.take_length,← List.map_drop]) hm h
theorem uCat {a b:ByteArray} {t2:TypeId} {yy:Operand} (h:RL (cx nt w0 S0) ops rest ((d,vS (a++b)) :: fr) σ Q) (ho:o.op=.binOp .add t xx yy t2:=by rfl) (hdst:o.dst=some d:=by rfl) (hd:Nat.blt d nt=true:=by rfl) (hw:wantA ops o fr=some true:=by rfl)
    (h1:ev fr xx=some (vS a):=by rfl) (h2:ev fr yy=some (vS b):=by rfl) (hs:a.size+b.size≤9223372036854775807:=by omega):RL (cx nt w0 S0) ops (o :: rest) fr σ Q :=
  RL_p (X:=cx nt w0 S0) zad hw hdst hd (by unfold aop;simp only [ho,h1,h2,abin];rw [if_pos hs];rfl) h
theorem mCat {a b:ByteArray} {t2:TypeId} {yy:Operand} (h:DSeq (cx nt w0 S0) ops τ0 σB QD (j+1) K C rest ((d,vS (a++b)) :: fr)) (ho:o.op=.binOp .add t xx yy t2:=by rfl) (hdst:o.dst=some d:=by rfl) (hd:Nat.blt d nt=true:=by rfl) (hw:wantA ops o (restr ops o fr)=some true:=by rfl)
    (h1:ev (restr ops o fr) xx=some (vS a):=by rfl) (h2:ev (restr ops o fr) yy=some (vS b):=by rfl) (hs:a.size+b.size≤9223372036854775807:=by omega) (hm:MenOk o K (vS (a++b)):=by (repeat (first|exact zax _ _|refine zau (by first|exact Or.inl rfl|exact Or.inr rfl) ?_))):DSeq (cx nt w0 S0) ops τ0 σB QD j K C (o :: rest) fr :=
  D_p (X:=cx nt w0 S0) zad hdst hd hw (by unfold aop;simp only [ho,h1,h2,abin];rw [if_pos hs];rfl) hm h
theorem uNil {c:Code} {QQ:Exit→Fr→Obs→Prop} (t k:Nat) (el:TypeId) (sz:Nat) {y:Value} (h:W (cx nt w0 S0) c ((t,.one (.own k [])) :: fr1) ((k,.tok el sz) :: σ1) QQ) (hl:look fr t=some (.one (.d (.v y))):=by rfl) (hy:isNil y=true:=by rfl) (hf:stripF k fr=fr1:=by exact strxA) (hs:stripS k σ=σ1:=by exact strxA):W (cx nt w0 S0) c fr σ QQ :=
  zp5 t k el sz hl hy (hf ▸ hs ▸ h)
end
end Go.Proofs.YtiplihojmfbjkaaGreat
namespace Go.Proofs.YtiplihojmfbjkaaGreat
open Go.RowKit
section
variable {X:Ctx} {γ γ':Nat→Nat} {T T':Nat→Value} {S S':Nat→Nat→Prop} {w w':World} {fr fr' fr1:Fr} {σ σ' σ1:Obs} {a:Act} {o:Oper}
def obD:Ob→Option (List D)
  | .box _ cs=>some cs
  | .cell _ (.d x)=>some [x]
  | .cell _ (.own _ r)=>some [.sl r]
  | .obj _ cs=>dataCs cs
  | _=>none
theorem zlO {k:Nat} {ob:Ob} {cs:List D} (hc:obD ob=some cs) (h:RO X γ T S w k ob):∃ us ty,w.heap[γ k]?=some (.cells us.toArray ty (0,0))∧RDL S w cs us∧(∀ o,¬ S (γ k) o)∧¬ X.N (γ k):=by
  cases ob with
  | box ty ds=>simp only [obD,Option.some.injEq] at hc;subst hc;obtain ⟨us,h1,h2,h3,h4⟩:=h;exact ⟨us,ty,h1,h2,h3,h4⟩
  | cell ty c =>
    obtain ⟨u,h1,h2,h3,h4,h5,_⟩:=h
    cases c with
    | d x=>simp only [obD,Option.some.injEq] at hc;subst hc;exact ⟨[u],ty,h1,.cons h2 .nil,h4,h5⟩
    | own j r=>simp only [obD,Option.some.injEq] at hc;subst hc;exact ⟨[u],ty,h1,.cons h2.1 .nil,h4,h5⟩
    | po k o=>cases hc
    | mr k=>cases hc
    | que k sz tot r=>cases hc
    | fn f c=>cases hc
    | win k lo n c sz=>cases hc
    | pe k i o sz=>cases hc
    | any=>cases hc
  | tok e sz=>cases hc
  | arr e sz rows=>cases hc
  | obj ty ds=>obtain ⟨us,h1,h2,h3,h4,_⟩:=h;exact ⟨us,ty,h1,zb7 hc h2,h3,h4⟩
  | mp es=>cases hc
  | junk=>cases hc
theorem Rel.settle1 {k:Nat} {ob:Ob} {cs:List D} (h:Rel X γ T S w fr σ a) (hk:look σ k=some ob) (hc:obD ob=some cs) :
    ∃ S',(∀ b o,S b o→S' b o)∧Rel X γ T S' w fr ((k,.junk) :: σ) a∧ ∀ o,RD S' w (.pi (cs.drop o)) (.pointer (some ⟨γ k,o,none⟩)):=by
  obtain ⟨us,ty,h1,h2,h3,h4⟩:=zlO hc (h.st.obj k ob hk)
  obtain ⟨⟨keep,lt,nlt,set,mon,obj,dis⟩,hfr,hn,hd⟩:=h
  have hfpk:fp γ T k ob (γ k):=by
    cases ob with
    | box ty ds=>exact rfl
    | cell ty c=>exact rfl
    | tok e sz=>cases hc
    | arr e sz rows=>exact rfl
    | obj ty cs=>exact rfl
    | mp es=>exact rfl
    | junk=>cases hc
  have hS:∀ b o,S b o→S b o∨(b=γ k∧o < cs.length):=fun b o hs=>.inl hs
  refine ⟨fun b o=>S b o∨(b=γ k∧o < cs.length),hS,⟨⟨keep,fun b o hs=>?_,nlt,fun b o hs=>?_,⟨fun b o hs=>.inl (mon.1 b o hs),mon.2⟩,fun j ob' hj=>?_,fun i j o o' hi hj hne b hb=>?_⟩,fun t x hx=>(hfr t x hx).mono hS .refl,hn,hd⟩,fun o=>?_⟩
  · rcases hs with hs | ⟨rfl,_⟩
    · exact lt b o hs
    · exact za0 h1
  · rcases hs with hs | ⟨rfl,_⟩
    · exact set b o hs
    · exact .inr h4
  · simp only [look] at hj
    split at hj
    · injection hj with hj;subst hj;trivial
    · rename_i hne
      refine (obj j ob' hj).kept hS .refl fun b hb=>⟨rfl,fun i hi=>hi.elim id fun hi'=>?_⟩
      exact (dis k j ob ob' hk hj hne b (by rw [hi'.1];exact hfpk) hb).elim
  · simp only [look] at hi hj
    split at hi
    · injection hi with hi;subst hi;exact hb.elim
    · split at hj
      · injection hj with hj;subst hj;exact id
      · exact dis i j o o' hi hj hne b hb
  · refine .pi _ _ (fun j=>(us[o+j]?).getD undef) rfl (fun j x hx=>?_) fun j hj=>?_
    · rw [List.getElem?_drop] at hx
      obtain ⟨u,hu,hr⟩:=h2.2 (o+j) x hx
      rw [hu];exact hr.mono hS .refl
    · rw [List.length_drop] at hj
      have hlt:o+j < us.length:=by rw [h2.1];omega
      refine ⟨.inr ⟨rfl,by show o+j < cs.length;omega⟩,?_⟩
      rw [cell_of_row w _ _ _ _ _ h1,List.getElem?_eq_getElem hlt]
      simp [hlt]
def junkL:List (Nat × List D)→Obs→Obs
  | [],σ=>σ
  | (k,_) :: L,σ=>junkL L ((k,.junk) :: σ)
def fzOk:Obs→List (Nat × List D)→Prop
  | _,[]=>True
  | σ,(k,cs) :: L=>(∃ ob,look σ k=some ob∧obD ob=some cs)∧fzOk ((k,.junk) :: σ) L
theorem zlW:fzOk σ []:=trivial
theorem zjI {k:Nat} {ob:Ob} {cs:List D} {L:List (Nat × List D)} (h1:look σ k=some ob) (h2:obD ob=some cs) (h:fzOk ((k,.junk) :: σ) L):fzOk σ ((k,cs) :: L):=⟨⟨ob,h1,h2⟩,h⟩
theorem Rel.settle:∀ (L:List (Nat × List D)) {S:Nat→Nat→Prop} {σ:Obs},Rel X γ T S w fr σ a→fzOk σ L→
    ∃ S',(∀ b o,S b o→S' b o)∧Rel X γ T S' w fr (junkL L σ) a∧ ∀ k cs,(k,cs)∈L→ ∀ o,RD S' w (.pi (cs.drop o)) (.pointer (some ⟨γ k,o,none⟩))
  | [],S,_,h,_=>⟨S,fun _ _ h=>h,h,fun k cs hm=>by cases hm⟩
  | (k,cs) :: L,_,_,h,⟨⟨ob,h1,h2⟩,h3⟩=>by
    obtain ⟨S1,m1,r1,p1⟩:=h.settle1 h1 h2
    obtain ⟨S2,m2,r2,p2⟩:=Rel.settle L r1 h3
    refine ⟨S2,fun b o hs=>m2 b o (m1 b o hs),r2,fun k' cs' hm o=>?_⟩
    rcases List.mem_cons.1 hm with e|hm
    · injection e with e1 e2;subst e1;subst e2;exact (p1 o).mono m2 .refl
    · exact p2 k' cs' hm o
def fzL (L:List (Nat × List D)):List Nat→Option (List (List D))
  | []=>some []
  | k :: l=>match look L k,fzL L l with
    | some cs,some m=>some (cs :: m)
    | _,_=>none
def fzV (L:List (Nat × List D)):VV→VV
  | .one (.po k o)=>match look L k with
    | some cs=>.one (.d (.pi (cs.drop o)))
    | none=>.one (.po k o)
  | .one (.fn f caps)=>match fzL L caps with
    | some l=>.one (.d (.fn f l))
    | none=>.one (.fn f caps)
  | x=>x
def fzF (L:List (Nat × List D)) (fr:Fr):Fr:=fr.map fun p=>(p.1,fzV L p.2)
theorem zg4 {L:List (Nat × List D)} (hp:∀ k cs,(k,cs)∈L→ ∀ o,RD S w (.pi (cs.drop o)) (.pointer (some ⟨γ k,o,none⟩))):∀ {caps:List Nat} {l:List (List D)},fzL L caps=some l→
    (caps.map fun k=>Value.pointer (some ⟨γ k,0,none⟩)).length=l.length∧ ∀ (i:Nat) (q:List D) (u:Value),l[i]?=some q→(caps.map fun k=>Value.pointer (some ⟨γ k,0,none⟩))[i]?=some u→RD S w (.pi q) u
  | [],l,h=>by simp only [fzL,Option.some.injEq] at h;subst h;exact ⟨rfl,fun i q u hq=>by simp at hq⟩
  | k :: caps,l,h=>by
    simp only [fzL] at h
    split at h
    · rename_i cs m hk hm
      injection h with h;subst h
      obtain ⟨h1,h2⟩:=zg4 hp hm
      refine ⟨by simpa using h1,fun i q u hq hu=>?_⟩
      cases i with
      | zero =>
        simp only [List.getElem?_cons_zero,Option.some.injEq] at hq;subst hq
        simp only [List.map_cons,List.getElem?_cons_zero,Option.some.injEq] at hu;subst hu
        have:=hp k cs (zaD hk) 0
        rwa [List.drop_zero] at this
      | succ i=>exact h2 i q u (by simpa using hq) (by simpa using hu)
    · cases h
theorem zlR {L:List (Nat × List D)} (hp:∀ k cs,(k,cs)∈L→ ∀ o,RD S w (.pi (cs.drop o)) (.pointer (some ⟨γ k,o,none⟩))) {x:VV} {v:Value} (h:RV γ T S w x v):RV γ T S w (fzV L x) v:=by
  unfold fzV
  split
  · rename_i k o
    split
    · rename_i cs hk
      cases h with
      | one h=>rw [show v=.pointer (some ⟨γ k,o,none⟩) from h];exact .one (hp k cs (zaD hk) o)
    · exact h
  · rename_i f caps
    split
    · rename_i l hl
      cases h with
      | one h =>
        rw [show v=.func (.func f) #[] (caps.map fun k=>Value.pointer (some ⟨γ k,0,none⟩)).toArray from h]
        obtain ⟨h1,h2⟩:=zg4 hp hl
        exact .one (.fn f l _ h1 h2)
    · exact h
  · exact h
theorem Rel.fz (L:List (Nat × List D)) (h:Rel X γ T S w fr σ a) (hk:fzOk σ L):∃ S',Rel X γ T S' w (fzF L fr) (junkL L σ) a:=by
  obtain ⟨S',m1,⟨st,hfr,hn,hd⟩,hp⟩:=Rel.settle L h hk
  refine ⟨S',st,fun t x hx=>?_,hn,hd⟩
  rw [show look (fzF L fr) t=(look fr t).map (fzV L) from zh4 _ _ _,Option.map_eq_some_iff] at hx
  obtain ⟨y,hy,rfl⟩:=hx
  exact zlR hp (hfr t y hy)
theorem W_fz {c:Code} {Q:Exit→Fr→Obs→Prop} (L:List (Nat × List D)) (hk:fzOk σ L) (h:W X c (fzF L fr) (junkL L σ) Q):W X c fr σ Q :=
  ⟨fun γ T _ w a hr=>let ⟨S',h'⟩:=hr.fz L hk;h.out γ T S' w a h'⟩
variable {ops:Array Oper} {rest:List Oper} {Q:Fr→Obs→Prop} {l:List Oper}
theorem zqk (L:List (Nat × List D)) (hk:fzOk σ L) (h:RL X ops l (fzF L fr) (junkL L σ) Q):RL X ops l fr σ Q :=
  ⟨fun γ T _ w a K hr hq=>let ⟨S',h'⟩:=hr.fz L hk;h.out γ T S' w a K h' hq⟩
def calleeV (fr:Fr) (x:Operand):Option (FuncId × List VV) :=
  match ev fr x with
  | some (.one (.fn f []))=>some (f,[])
  | some (.one (.d (.fn f caps)))=>some (f,caps.map fun q=>.one (.d (.pi q)))
  | _=>none
theorem zeE (hr:Rel X γ T S w fr σ a) {x:Operand} {f:FuncId} {cs:List VV} (h:calleeV fr x=some (f,cs)):∃ us:List Value,a.eval x=.func (.func f) #[] us.toArray∧ArgsR S w cs us:=by
  unfold calleeV at h
  split at h
  · rename_i g hx
    simp only [Option.some.injEq,Prod.mk.injEq] at h
    obtain ⟨rfl,rfl⟩:=h
    have:=zae hr hx
    cases this with
    | one hv=>exact ⟨[],hv,rfl,fun j y v hy=>by simp at hy⟩
  · rename_i g caps hx
    simp only [Option.some.injEq,Prod.mk.injEq] at h
    obtain ⟨rfl,rfl⟩:=h
    have:=zae hr hx
    generalize a.eval x=u at this
    cases this with
    | one hv =>
      cases hv with
      | fn _ _ us len val =>
        refine ⟨us,rfl,by simp [len],fun j y v hy hv=>?_⟩
        rw [List.getElem?_map,Option.map_eq_some_iff] at hy
        obtain ⟨q,hq,rfl⟩:=hy
        exact fun γ T=>.one (val j q v hq hv)
  · cases h
theorem ArgsR.app {x1 x2:List VV} {v1 v2:List Value} (h:ArgsR S w x1 v1) (k:ArgsR S w x2 v2):ArgsR S w (x1++x2) (v1++v2) :=
  ⟨by rw [List.length_append,List.length_append,h.1,k.1],fun j y v hy hv=>by
    by_cases hj:j < x1.length
    · rw [List.getElem?_append_left hj] at hy
      rw [List.getElem?_append_left (by rw [h.1];exact hj)] at hv
      exact h.2 j y v hy hv
    · rw [List.getElem?_append_right (by omega)] at hy
      rw [List.getElem?_append_right (by rw [h.1];omega),h.1] at hv
      exact k.2 _ y v hy hv⟩
theorem zbN {f:FuncId} {x:Operand} {xs:Array Operand} {ats:Array TypeId} {us:List Value} (ho:o.op=.call { callee:=.value x,args:=xs,argTypes:=ats }) (hx:a.eval x=.func (.func f) #[] us.toArray):execOp a.eval o=callFunc f (xs.toList.map a.eval++us).toArray:=by
  have h1:execOp a.eval o=callFunc f (#[]++xs.map a.eval++us.toArray):=by
    obtain ⟨dst,op,type,pos,after,guard⟩:=o
    simp only at ho
    subst ho
    simp only [execOp,resolve,hx,Deferred.ofValue]
    rfl
  rw [h1]
  congr 1
  apply Array.toList_inj.1
  simp
theorem zmN {f:FuncId} {x:Operand} {xs:Array Operand} {ats:Array TypeId} {args cs:List VV} {res:Res} (r:Out) (hw:wantA ops o fr=some true) (hd:inF X.nt o.dst=true) (ho:o.op=.call { callee:=.value x,args:=xs,argTypes:=ats }) (hx:calleeV fr x=some (f,cs))
    (ha:argsL fr xs.toList=some args) (hc:CallsV X.P f (args++cs) res) (hr':resOut o.dst fr σ res=some r) (h:RL X ops rest (putF r.fr o.dst r.x) r.σ Q):RL X ops (o :: rest) fr σ Q :=
  ⟨fun γ T S w a K hr hk=>wpList_step fun K' hK=>by
    obtain ⟨us,hu1,hu2⟩:=zeE hr hx
    rw [if_pos (zam hr hw)]
    unfold Oper.wp
    rw [zbN ho hu1,hc.ent]
    refine (hc.out S w _ ((zbg hr ha).app hu2) hr.st.lt).mono fun e w' he=>?_
    obtain ⟨v,S',rfl,hb,hS,hS',hv⟩:=he
    obtain ⟨T',g1,g2⟩:=hr.back hb hS hS' hv hr'
    exact hK _ _ (h.out γ T' S' w' _ K (g1.put hd g2) hk)⟩
end
end Go.Proofs.YtiplihojmfbjkaaGreat
