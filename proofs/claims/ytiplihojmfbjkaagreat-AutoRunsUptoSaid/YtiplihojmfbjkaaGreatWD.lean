/- Regions whose order is open,walked once,in the text's order. -/
import Derived.Test.YtiplihojmfbjkaaGreatWE
namespace Go.Proofs.YtiplihojmfbjkaaGreat
open Go.RowKit
def wrO (ops:List Oper) (t:Tmp):Option Nat:=ops.findIdx? (fun o=>o.dst==some t)
def onO (o:Oper) (j:Nat):Bool:=o.after.toList.any fun e=>Region.binds .any e&&Nat.beq e.on j
def regOkA (A:Array Oper) (ops:List Oper):Bool :=
  (List.range ops.length).all fun i=>match ops[i]? with
    | none=>false
    | some o=>(match o.dst with|some t=>wrO ops t==some i|none=>true)&&(o.after.all fun e=>!Region.binds .any e || decide (e.on < i)) &&
      (o.looksAt A).all fun t=>match wrO ops t with
        | none=>true
        | some j=>onO o j || (match ops[j]? with|some p=>onO p i|none=>false)
def regOk (ops:List Oper):Bool:=Region.noSelect ops.toArray&&regOkA ops.toArray ops
theorem zbp {A:Array Oper} {ops:List Oper} (h:regOkA A ops=true) {i:Nat} {o:Oper} (ho:ops[i]?=some o) :
    (∀ t,o.dst=some t→wrO ops t=some i)∧(∀ e∈o.after,Region.binds .any e=true→e.on < i)∧(∀ t∈o.looksAt A, ∀ j,wrO ops t=some j→onO o j=true∨ ∃ p,ops[j]?=some p∧onO p i=true):=by
  unfold regOkA at h
  have hlt:i < ops.length:=(List.getElem?_eq_some_iff.1 ho).1
  have h1:=List.all_eq_true.1 h i (List.mem_range.2 hlt)
  rw [ho] at h1
  simp only [Bool.and_eq_true,List.all_eq_true,Array.all_eq_true_iff_forall_mem] at h1
  obtain ⟨⟨h2,h3⟩,h4⟩:=h1
  refine ⟨fun t ht=>?_,fun e he hb=>(by have h5:=h3 e he;rw [hb] at h5;simpa using h5),fun t ht j hj=>?_⟩
  · rw [ht] at h2;simpa using h2
  · have:=h4 t ht
    rw [hj] at this
    simp only [Bool.or_eq_true] at this
    refine this.imp id fun h5=>?_
    cases hp:ops[j]? with
    | none=>rw [hp] at h5;cases h5
    | some p=>rw [hp] at h5;exact ⟨p,rfl,h5⟩
theorem zom {ops:List Oper} (h:regOk ops=true):regOkA ops.toArray ops=true:=(Bool.and_eq_true_iff.1 h).2
theorem zbo {o:Oper} {j:Nat} (h:onO o j=true):∃ e∈o.after,Region.binds .any e=true∧e.on=j:=by
  unfold onO at h
  obtain ⟨e,he,h⟩:=List.any_eq_true.1 h
  rw [Bool.and_eq_true] at h
  exact ⟨e,by simpa using he,h.1,Nat.eq_of_beq_eq_true h.2⟩
theorem zcA {ops:List Oper} {t:Tmp} {j:Nat} (h:wrO ops t=some j):∃ o,ops[j]?=some o∧o.dst=some t:=by
  unfold wrO at h
  rw [List.findIdx?_eq_some_iff_getElem] at h
  obtain ⟨hj,h1,_⟩:=h
  exact ⟨ops[j],List.getElem?_eq_getElem hj,by simpa using h1⟩
inductive Eff where
  | none
  | mk (e:TypeId) (sz:Nat)
  | app (k:Nat) (e:TypeId) (sz:Nat)
  | chg (k:Nat) (ob ob':Ob)
  | alc (ty:TypeId) (cs:List D)
def Eff.makes:Eff→Option Ob
  | .none=>Option.none
  | .mk e sz=>some (.tok e sz)
  | .app _ e sz=>some (.tok e sz)
  | .chg _ _ _=>Option.none
  | .alc ty cs=>some (.box ty cs)
def Eff.cons:Eff→Option Nat
  | .app k _ _=>some k
  | .chg k _ _=>some k
  | _=>Option.none
def Eff.rep:Eff→Option Ob
  | .chg _ _ ob'=>some ob'
  | _=>Option.none
abbrev Cons:=List (Nat × Option Ob)
def hasC (C:Cons) (k:Nat):Bool:=(C.map (·.1)).contains k
theorem zjc {eff:Eff} {ob:Ob} (h:eff.makes=some ob) (d:Nat):stripO d ob=ob:=by
  cases eff<;>simp only [Eff.makes,Option.some.injEq,reduceCtorEq] at h<;>subst h<;>rfl
theorem zcR {C:Cons} {k:Nat} {r:Option Ob} (h:(k,r)∈C):hasC C k=true:=by
  unfold hasC
  rw [List.contains_iff_mem]
  exact List.mem_map.2 ⟨_,h,rfl⟩
structure Cr where
  d:Nat
  i:Nat
  ob:Ob
def crK (i:Nat) (d:Option Nat) (eff:Eff) (K:List Cr):List Cr :=
  match d,eff.makes with
  | some d,some ob=>⟨d,i,ob⟩ :: K
  | _,_=>K
def crC (eff:Eff) (C:Cons):Cons:=match eff.cons with|some k=>(k,eff.rep) :: C|Option.none=>C
def restr (ops:Array Oper) (o:Oper) (fr:Fr):Fr:=fr.filter fun p=>(o.looksAt ops).contains p.1
section
variable {X:Ctx} {γ γ':Nat→Nat} {T T':Nat→Value} {S S':Nat→Nat→Prop} {w w':World} {fr fr':Fr} {σ σ':Obs} {a:Act} {o:Oper}
theorem zgg (ops:Array Oper) (o:Oper):∀ (fr:Fr) (t:Nat),look (restr ops o fr) t=if (o.looksAt ops).contains t then look fr t else none
  | [],t=>by simp [restr,look]
  | (k,x) :: fr,t=>by
    have ih:=zgg ops o fr t
    unfold restr at ih ⊢
    rw [List.filter_cons]
    by_cases hk:(o.looksAt ops).contains k=true
    · simp only [hk,if_true,look]
      by_cases e:k=t
      · subst e;simp only [if_true,hk]
      · simp only [if_neg e];exact ih
    · rw [if_neg hk,ih]
      simp only [look]
      by_cases e:k=t
      · subst e;rw [if_neg hk,if_neg hk]
      · rw [if_neg e]
def Outc (X:Ctx) (o:Oper) (a:Act) (w:World) (Post:Value→World→Prop):Prop :=
  (∃ v w',(execOp a.eval o).run X.P w=.ok (.value v) w'∧Post v w')∨
  ∃ f args,(execOp a.eval o).run X.P w=.ok (.enter f args) w∧Calls X.P f args w (fun e w'=>∃ v,e=.returned v∧Post v w')
theorem Outc.wp {Post:Value→World→Prop} {K:Act→World→Prop} {QQ:Exit→Act→World→Prop} (h:Outc X o a w Post) (hk:∀ v w',Post v w'→K (a.put o.dst v) w'):Oper.wp X.P o a w K QQ:=by
  unfold Oper.wp
  rcases h with ⟨v,w',h1,h2⟩ | ⟨f,args,h1,h2⟩
  · rw [h1];exact hk v w' h2
  · rw [h1,Oper.upon_enter]
    refine h2.mono fun e w' he=>?_
    obtain ⟨v,rfl,h3⟩:=he
    exact hk v w' h3
theorem Outc.mono {Post Post':Value→World→Prop} (h:Outc X o a w Post) (hk:∀ v w',Post v w'→Post' v w'):Outc X o a w Post' :=
  h.imp (fun ⟨v,w',h1,h2⟩=>⟨v,w',h1,hk _ _ h2⟩) fun ⟨f,args,h1,h2⟩=>⟨f,args,h1,h2.mono fun _ _ ⟨v,h3,h4⟩=>⟨v,h3,hk _ _ h4⟩⟩
def OutcS (X:Ctx) (o:Oper) (a:Act) (w:World) (Post:Value→World→Prop):Prop:=Outc X o a w Post∨ ∃ w',(execOp a.eval o).run X.P w=.ok .skip w'∧Post undef w'
theorem OutcS.wp {Post:Value→World→Prop} {K:Act→World→Prop} {QQ:Exit→Act→World→Prop} (h:OutcS X o a w Post) (hk:∀ v w',Post v w'→K (a.put o.dst v) w'):Oper.wp X.P o a w K QQ:=by
  rcases h with h | ⟨w',h1,h2⟩
  · exact h.wp hk
  · unfold Oper.wp
    rw [h1];exact hk undef w' h2
theorem OutcS.mono {Post Post':Value→World→Prop} (h:OutcS X o a w Post) (hk:∀ v w',Post v w'→Post' v w'):OutcS X o a w Post' :=
  h.imp (·.mono hk) fun ⟨w',h1,h2⟩=>⟨w',h1,hk _ _ h2⟩
def boxy:Ob→Bool
  | .box _ _ | .cell _ _ | .arr _ _ _ | .obj _ _ | .mp _=>true
  | _=>false
theorem zdd {k:Nat} {ob:Ob} (h:boxy ob=true) (b:Nat):fp γ T k ob b↔b=γ k:=by
  cases ob with
  | box ty cs=>exact Iff.rfl
  | cell ty c=>exact Iff.rfl
  | arr e sz rows=>exact Iff.rfl
  | obj ty cs=>exact Iff.rfl
  | mp es=>exact Iff.rfl
  | tok e sz=>cases h
  | junk=>cases h
theorem zk7 {k:Nat} {ob:Ob} (h:boxy ob=true) (ho:RO X γ T S w k ob) (o:Nat):¬ S (γ k) o:=by
  cases ob with
  | box ty cs=>obtain ⟨_,_,_,h1,_⟩:=ho;exact h1 o
  | cell ty c=>obtain ⟨_,_,_,_,h1,_⟩:=ho;exact h1 o
  | arr e sz rows=>obtain ⟨_,_,_,_,h1,_⟩:=ho;exact h1 o
  | obj ty cs=>obtain ⟨_,_,_,h1,_⟩:=ho;exact h1 o
  | mp es=>obtain ⟨_,_,_,_,h1,_⟩:=ho;exact h1 o
  | tok e sz=>cases h
  | junk=>cases h
structure OnlyAt (w w':World) (g:Nat):Prop where
  os:w'.os=w.os
  tape:w'.tape=w.tape
  output:w'.output=w.output
  size:w'.heap.size=w.heap.size
  block:∀ b,b≠g→w'.heap[b]?=w.heap[b]?
theorem Rel.chg {k:Nat} {ob ob':Ob} (h:Rel X γ T S w fr σ a) (hk:look σ k=some ob) (hb:boxy ob=true) (hb':boxy ob'=true) (ho:OnlyAt w w' (γ k)) (hr:RO X γ T S w' k ob'):Rel X γ T S w' fr ((k,ob') :: σ) a∧Kp S w w':=by
  obtain ⟨⟨keep,lt,nlt,set,mon,obj,dis⟩,hfr,hn,hd⟩:=h
  have h1:=obj k ob hk
  have hfree:=zk7 hb h1
  have hN:¬ X.N (γ k):=h1.free ((zdd hb _).2 rfl)
  have hkp:Kp S w w':=fun b o x hs hc=>by
    rw [World.cell?_of_block (ho.block b fun e=>hfree o (e ▸ hs))];exact hc
  refine ⟨⟨⟨⟨ho.os.trans keep.os,ho.tape.trans keep.tape,ho.output.trans keep.output,by rw [ho.size];exact keep.size,fun b hNb hlt=>(ho.block b fun e=>hN (e ▸ hNb)).trans (keep.block b hNb hlt)⟩,fun b o hs=>by rw [ho.size];exact lt b o hs,nlt,set,⟨mon.1,fun b o x hs hc=>hkp b o x (mon.1 b o hs) (mon.2 b o x hs hc)⟩,fun j ob2 hj=>?_,fun i j o o' hi hj hne b hb2=>?_⟩,fun t x hx=>(hfr t x hx).mono (fun _ _ h=>h) hkp,hn,hd⟩,hkp⟩
  · rw [zap] at hj
    split at hj
    · rename_i e;injection hj with hj;subst hj;subst e;exact hr
    · rename_i e
      exact (obj j ob2 hj).kept (fun _ _ h=>h) hkp fun b hb3=>⟨ho.block b fun e2=>dis k j ob ob2 hk hj e b ((zdd hb b).2 e2) hb3,fun _ h=>h⟩
  · rw [zap] at hi hj
    split at hi<;>split at hj
    · rename_i e1 e2;exact (hne (e1.symm.trans e2)).elim
    · rename_i e1 e2;injection hi with hi;subst hi;subst e1;exact dis k j ob o' hk hj hne b ((zdd hb b).2 ((zdd hb' b).1 hb2))
    · rename_i e1 e2;injection hj with hj;subst hj;subst e2;exact fun hb4=>dis i k o ob hi hk hne b hb2 ((zdd hb b).2 ((zdd hb' b).1 hb4))
    · exact dis i j o o' hi hj hne b hb2
def Grows (S S':Nat→Nat→Prop) (w w':World):Prop:=Below w.heap.size w w'∧(∀ b o,S b o→S' b o)∧(∀ b o,S' b o→S b o∨(w.heap.size≤b∧b < w'.heap.size))
def Does (X:Ctx) (ops:Array Oper) (o:Oper) (fr:Fr) (σB:Obs) (x:VV):Eff→Prop
  | .none=>(wantA ops o fr=some false∧x=.tup [])∨(wantA ops o fr=some true∧ ∀ γ T S w a,Rel X γ T S w fr σB a→Outc X o a w (fun v w'=>∃ S',Grows S S' w w'∧RV γ T S' w' x v))
  | .mk e sz=>wantA ops o fr=some true∧ ∃ d rows,o.dst=some d∧x=.one (.own d rows)∧ ∀ γ T S w a,Rel X γ T S w fr σB a→Outc X o a w (fun v w'=>∃ S',Grows S S' w w'∧ResR S' w w' v (.own e sz rows))
  | .app k e sz=>wantA ops o fr=some true∧ ∃ d rows,o.dst=some d∧x=.one (.own d rows)∧ ∀ γ T S w a,Rel X γ T S w fr [(k,.tok e sz)] a→
      Outc X o a w (fun v' w'=>∃ S',(∃ xs',w'.ownsRow 0 e sz v' rows.length xs')∧w.grownBy w' (T k).ownBlock∧Kp S w w'∧(∀ g,v'.ownBlock=some g→(T k).ownBlock=some g∨w.heap.size≤g)∧
      (∀ b o,S b o→S' b o)∧(∀ b o,S' b o→S b o∨(v'.ownBlock=some b∧b < w'.heap.size))∧(∀ g,v'.ownBlock=some g→ ∀ o,S' g o→o < rows.length * sz)∧RD S' w' (.sl rows) v')
  | .chg k ob ob'=>wantA ops o fr=some true∧boxy ob=true∧boxy ob'=true∧(∀ d,stripO d ob'=ob')∧ ∀ γ T S w a,Rel X γ T S w fr [(k,ob)] a→OutcS X o a w (fun v w'=>OnlyAt w w' (γ k)∧RO X γ T S w' k ob'∧RV γ T S w' x v)
  | .alc ty cs=>wantA ops o fr=some true∧ ∃ d,o.dst=some d∧x=.one (.po d 0)∧ ∀ γ T S w a,Rel X γ T S w fr σB a→Outc X o a w (fun v w'=>∃ us:List Value,w'=w.alloc (.cells us.toArray ty)∧v=.pointer (some ⟨w.heap.size,0,none⟩)∧RDL S w' cs us)
structure Step1 (X:Ctx) (ops:Array Oper) (τ0 σB:Obs) (K:List Cr) (C:Cons) (o:Oper) (fr:Fr) (x:VV) (eff:Eff):Prop where
  dst:inF X.nt o.dst=true
  men:∀ c∈K,onO o c.i=true∨stripV c.d x=x
  does:Does X ops o (restr ops o fr) σB x eff
  new:∀ d,o.dst=some d→eff.makes≠none→(∀ p∈fr,stripV d p.2=p.2)∧(∀ p∈σB,p.1≠d∧stripO d p.2=p.2)∧ ∀ p∈τ0,p.1≠d∧stripO d p.2=p.2
  src:∀ k e sz,eff=.app k e sz→hasC C k=false∧look σB k=none∧((k,Ob.tok e sz)∈τ0∨ ∃ c∈K,c.d=k∧c.ob=.tok e sz∧onO o c.i=true)
  srcm:∀ k ob ob',eff=.chg k ob ob'→hasC C k=false∧look σB k=none∧((k,ob)∈τ0∨ ∃ c∈K,c.d=k∧c.ob=ob∧onO o c.i=true)
def finS (τ0 σB:Obs) (K:List Cr) (C:Cons):Obs:=(C.filterMap fun p=>p.2.map fun ob=>(p.1,ob))++((K.filter fun c=>!hasC C c.d).map (fun c=>(c.d,c.ob))++(τ0.filter fun p=>!hasC C p.1)++σB)
def DSeq (X:Ctx) (ops:Array Oper) (τ0 σB:Obs) (Q:Fr→Obs→Prop):Nat→List Cr→Cons→List Oper→Fr→Prop
  | _,K,C,[],fr=>Q fr (finS τ0 σB K C)
  | i,K,C,o :: rest,fr=>∃ x eff,Step1 X ops τ0 σB K C o fr x eff∧DSeq X ops τ0 σB Q (i+1) (crK i o.dst eff K) (crC eff C) rest (putF fr o.dst x)
theorem zdw {ops:Array Oper} {τ0 σB:Obs} {Q:Fr→Obs→Prop}:∀ (l:List Oper) (k:Nat) (K:List Cr) (C:Cons) (fr:Fr),DSeq X ops τ0 σB Q k K C l fr→
    ∃ (xs:Nat→VV) (es:Nat→Eff) (fs:Nat→Fr) (Ks:Nat→List Cr) (Cs:Nat→Cons),fs k=fr∧Ks k=K∧Cs k=C∧
      (∀ i o,l[i]?=some o→Step1 X ops τ0 σB (Ks (k+i)) (Cs (k+i)) o (fs (k+i)) (xs (k+i)) (es (k+i))∧fs (k+i+1)=putF (fs (k+i)) o.dst (xs (k+i))∧
        Ks (k+i+1)=crK (k+i) o.dst (es (k+i)) (Ks (k+i))∧Cs (k+i+1)=crC (es (k+i)) (Cs (k+i)))∧Q (fs (k+l.length)) (finS τ0 σB (Ks (k+l.length)) (Cs (k+l.length)))
  | [],k,K,C,fr,h=>⟨fun _=>.junk,fun _=>.none,fun _=>fr,fun _=>K,fun _=>C,rfl,rfl,rfl,fun i o h=>by simp at h,h⟩
  | o :: rest,k,K,C,fr,⟨x,eff,hs,h⟩=>by
    obtain ⟨xs,es,fs,Ks,Cs,h1,h3,h4,hi,hq⟩:=zdw rest (k+1) _ _ _ h
    refine ⟨fun i=>if i=k then x else xs i,fun i=>if i=k then eff else es i,fun i=>if i=k then fr else fs i,fun i=>if i=k then K else Ks i,fun i=>if i=k then C else Cs i,by simp,by simp,by simp,fun i p hp=>?_,?_⟩
    · cases i with
      | zero =>
        simp only [List.getElem?_cons_zero,Option.some.injEq] at hp
        subst hp
        simp only [Nat.add_zero,if_true,if_neg (show ¬ k+1=k by omega)]
        exact ⟨hs,h1,h3,h4⟩
      | succ i =>
        simp only [List.getElem?_cons_succ] at hp
        have h5:=hi i p hp
        rw [show k+(i+1)=k+1+i by omega]
        simp only [if_neg (show ¬ k+1+i=k by omega),if_neg (show ¬ k+1+i+1=k by omega)]
        exact h5
    · rw [show k+1+rest.length=k+(o :: rest).length by simp;omega] at hq
      simp only [if_neg (show ¬ k+(o :: rest).length=k by simp)]
      exact hq
theorem zaD {α:Type}:∀ {l:List (Nat × α)} {t:Nat} {x:α},look l t=some x→(t,x)∈l
  | [],t,x,h=>by simp [look] at h
  | (k,y) :: l,t,x,h=>by
    simp only [look] at h
    split at h
    · rename_i e;injection h with h;subst h;subst e;exact List.mem_cons_self
    · exact List.mem_cons_of_mem _ (zaD h)
structure Found (X:Ctx) (A:Array Oper) (l:List Oper) (τ0 σB:Obs) (fr0:Fr) (xs:Nat→VV) (es:Nat→Eff) (fs:Nat→Fr) (Ks:Nat→List Cr) (Cs:Nat→Cons):Prop where
  ok:regOkA A l=true
  f0:fs 0=fr0
  k0:Ks 0=[]
  c0:Cs 0=[]
  at_:∀ i o,l[i]?=some o→Step1 X A τ0 σB (Ks i) (Cs i) o (fs i) (xs i) (es i)∧fs (i+1)=putF (fs i) o.dst (xs i)∧Ks (i+1)=crK i o.dst (es i) (Ks i)∧Cs (i+1)=crC (es i) (Cs i)
section
variable {A:Array Oper} {l:List Oper} {τ0 σB:Obs} {fr0:Fr} {xs:Nat→VV} {es:Nat→Eff} {fs:Nat→Fr} {Ks:Nat→List Cr} {Cs:Nat→Cons}
def FL (l:List Oper) (fr0:Fr) (xs:Nat→VV) (L:Nat→Bool) (t:Nat):Option VV :=
  match wrO l t with
  | some j=>if L j=true then some (xs j) else look fr0 t
  | none=>look fr0 t
theorem Found.look_ (h:Found X A l τ0 σB fr0 xs es fs Ks Cs):∀ i,i≤l.length→ ∀ t,look (fs i) t=FL l fr0 xs (fun j=>decide (j < i)) t:=by
  intro i
  induction i with
  | zero=>intro _ t;rw [h.f0];unfold FL;cases wrO l t<;>simp
  | succ i ih =>
    intro hi t
    have ho:l[i]?=some l[i]:=List.getElem?_eq_getElem (by omega)
    rw [(h.at_ i _ ho).2.1]
    have ih':=ih (by omega) t
    have hreg:=zbp h.ok ho
    cases hd:l[i].dst with
    | none =>
      rw [zbL,ih']
      unfold FL
      cases hw:wrO l t with
      | none=>rfl
      | some j =>
        have hne:j≠i:=fun e=>by
          obtain ⟨p,hp,hpd⟩:=zcA hw
          subst e
          rw [ho] at hp
          injection hp with hp
          rw [← hp,hd] at hpd
          cases hpd
        have:(j < i)↔(j < i+1):=by omega
        simp only [this]
    | some d =>
      rw [zbv,zap,ih']
      by_cases e:d=t
      · subst e
        rw [if_pos rfl]
        unfold FL
        rw [hreg.1 d hd]
        simp
      · rw [if_neg e]
        unfold FL
        cases hw:wrO l t with
        | none=>rfl
        | some j =>
          have hne:j≠i:=fun e'=>by
            obtain ⟨p,hp,hpd⟩:=zcA hw
            subst e'
            rw [ho] at hp
            injection hp with hp
            rw [← hp,hd] at hpd
            injection hpd with hpd
            exact e hpd
          have:(j < i)↔(j < i+1):=by omega
          simp only [this]
theorem Found.mem (h:Found X A l τ0 σB fr0 xs es fs Ks Cs):∀ i,i≤l.length→(∀ p∈fr0,p∈fs i)∧ ∀ j o d,j < i→l[j]?=some o→o.dst=some d→(d,xs j)∈fs i:=by
  intro i
  induction i with
  | zero=>intro _;exact ⟨fun p hp=>by rw [h.f0];exact hp,fun j o d hj=>by omega⟩
  | succ i ih =>
    intro hi
    obtain ⟨h1,h2⟩:=ih (by omega)
    have ho:l[i]?=some l[i]:=List.getElem?_eq_getElem (by omega)
    have hput:∀ p,p∈fs i→p∈fs (i+1):=fun p hp=>by
      rw [(h.at_ i _ ho).2.1]
      cases l[i].dst with
      | none=>exact hp
      | some d=>exact List.mem_cons_of_mem _ hp
    refine ⟨fun p hp=>hput p (h1 p hp),fun j o d hj hoj hd=>?_⟩
    by_cases e:j=i
    · subst e
      rw [ho] at hoj
      injection hoj with hoj
      rw [(h.at_ j _ ho).2.1,hoj,hd]
      exact List.mem_cons_self
    · exact hput _ (h2 j o d (by omega) hoj hd)
theorem Found.keys (h:Found X A l τ0 σB fr0 xs es fs Ks Cs):∀ i,i≤l.length→(∀ j o d ob,j < i→l[j]?=some o→o.dst=some d→(es j).makes=some ob→(⟨d,j,ob⟩:Cr)∈Ks i)∧
    (∀ c∈Ks i,c.i < i∧ ∃ o,l[c.i]?=some o∧o.dst=some c.d∧(es c.i).makes=some c.ob)∧(∀ j k,j < i→(es j).cons=some k→(k,(es j).rep)∈Cs i)∧(∀ k ob,(k,some ob)∈Cs i→ ∃ j o b,j < i∧l[j]?=some o∧es j=.chg k b ob):=by
  intro i
  induction i with
  | zero =>
    intro _
    refine ⟨fun j o d ob hj=>absurd hj (by omega),fun c hc=>?_,fun j k hj=>absurd hj (by omega),fun k ob hk=>?_⟩
    · rw [h.k0] at hc;cases hc
    · rw [h.c0] at hk;cases hk
  | succ i ih =>
    intro hi
    obtain ⟨h1,h2,h3,h4⟩:=ih (by omega)
    have ho:l[i]?=some l[i]:=List.getElem?_eq_getElem (by omega)
    obtain ⟨_,_,e1,e2⟩:=h.at_ i _ ho
    have hsub:∀ c,c∈Ks i→c∈Ks (i+1):=fun c hc=>by
      rw [e1];unfold crK;split
      · exact List.mem_cons_of_mem _ hc
      · exact hc
    refine ⟨fun j o d ob hj hoj hd hm=>?_,fun c hc=>?_,fun j k hj hk=>?_,fun k ob hk=>?_⟩
    · by_cases ej:j=i
      · subst ej
        rw [ho] at hoj
        injection hoj with hoj
        rw [e1,hoj,hd]
        unfold crK
        rw [hm]
        exact List.mem_cons_self
      · exact hsub _ (h1 j o d ob (by omega) hoj hd hm)
    · rw [e1] at hc
      unfold crK at hc
      split at hc
      · rename_i d ob hd hm
        rcases List.mem_cons.1 hc with rfl|hc
        · exact ⟨by simp,_,ho,hd,hm⟩
        · obtain ⟨g1,g2⟩:=h2 c hc;exact ⟨by omega,g2⟩
      · obtain ⟨g1,g2⟩:=h2 c hc;exact ⟨by omega,g2⟩
    · rw [e2]
      unfold crC
      by_cases ej:j=i
      · subst ej;rw [hk];exact List.mem_cons_self
      · have:=h3 j k (by omega) hk
        split
        · exact List.mem_cons_of_mem _ this
        · exact this
    · rw [e2] at hk
      unfold crC at hk
      split at hk
      · rename_i k' hk'
        rcases List.mem_cons.1 hk with e|hk
        · injection e with e3 e4
          subst e3
          cases he:es i with
          | none=>rw [he] at hk';cases hk'
          | mk e sz=>rw [he] at hk';cases hk'
          | app k e sz=>rw [he] at e4;cases e4
          | alc ty cs=>rw [he] at hk';cases hk'
          | chg k b ob' =>
            rw [he] at hk' e4
            injection hk' with hk'
            injection e4 with e4
            subst hk';subst e4
            exact ⟨i,_,b,by omega,ho,he⟩
        · obtain ⟨j,o,b,g1,g2⟩:=h4 k ob hk;exact ⟨j,o,b,by omega,g2⟩
      · obtain ⟨j,o,b,g1,g2⟩:=h4 k ob hk;exact ⟨j,o,b,by omega,g2⟩
theorem Found.free (h:Found X A l τ0 σB fr0 xs es fs Ks Cs) {i:Nat} {o:Oper} {d:Nat} (ho:l[i]?=some o) (hd:o.dst=some d) (hm:(es i).makes≠none) :
    (∀ p∈fr0,stripV d p.2=p.2)∧ ∀ m p t,m≠i→l[m]?=some p→p.dst=some t→onO p i=true∨stripV d (xs m)=xs m:=by
  have hi:i < l.length:=(List.getElem?_eq_some_iff.1 ho).1
  have hnew:=((h.at_ i o ho).1.new d hd hm).1
  refine ⟨fun p hp=>hnew p ((h.mem i (by omega)).1 p hp),fun m p t hne hp ht=>?_⟩
  have hml:m < l.length:=(List.getElem?_eq_some_iff.1 hp).1
  rcases Nat.lt_or_gt_of_ne hne with hlt|hgt
  · exact .inr (hnew _ ((h.mem i (by omega)).2 m p t hlt hp ht))
  · cases hmk:(es i).makes with
    | none=>exact absurd hmk hm
    | some q=>exact (h.at_ m p hp).1.men _ ((h.keys m (by omega)).1 i o d q hgt ho hd hmk)
def TokL (l:List Oper) (τ0:Obs) (es:Nat→Eff) (L:Nat→Bool) (k:Nat) (ob:Ob):Prop :=
  (∀ c,c < l.length→L c=true→(es c).cons≠some k)∧((k,ob)∈τ0∨ ∃ (j:Nat) (o:Oper),L j=true∧l[j]?=some o∧o.dst=some k∧(es j).makes=some ob)
def MutL (l:List Oper) (es:Nat→Eff) (L:Nat→Bool) (k:Nat) (ob:Ob):Prop:=∃ (j:Nat) (o:Oper) (b:Ob),L j=true∧l[j]?=some o∧es j=.chg k b ob
def InvL (X:Ctx) (l:List Oper) (τ0 σB:Obs) (fr0:Fr) (xs:Nat→VV) (es:Nat→Eff) (L:Nat→Bool) (a:Act) (w:World):Prop :=
  ∃ γ T S frL σL,Rel X γ T S w frL σL a∧(∀ t x,FL l fr0 xs L t=some x→look frL t=some x)∧(∀ k ob,look σB k=some ob→look σL k=some ob)∧ ∀ k ob,TokL l τ0 es L k ob∨MutL l es L k ob→look σL k=some ob
theorem zoi {i:Nat} {o:Oper} (hok:regOkA A l=true) (ho:l[i]?=some o) {L L':Nat→Bool} (hL:∀ j,L' j=true↔(j=i∨L j=true)) {t:Nat} {x:VV} (h:FL l fr0 xs L' t=some x):(o.dst=some t∧x=xs i)∨(o.dst≠some t∧FL l fr0 xs L t=some x):=by
  by_cases hd:o.dst=some t
  · left
    refine ⟨hd,?_⟩
    unfold FL at h
    rw [(zbp hok ho).1 t hd] at h
    simp only [(hL i).2 (.inl rfl),if_true,Option.some.injEq] at h
    exact h.symm
  · right
    refine ⟨hd,?_⟩
    unfold FL at h ⊢
    cases hw:wrO l t with
    | none=>rw [hw] at h;exact h
    | some j =>
      rw [hw] at h
      simp only at h ⊢
      have hne:j≠i:=fun e=>by
        obtain ⟨p,hp,hpd⟩:=zcA hw
        subst e
        rw [ho] at hp
        injection hp with hp
        exact hd (hp ▸ hpd)
      by_cases hl:L j=true
      · rw [if_pos hl];rw [if_pos ((hL j).2 (.inr hl))] at h;exact h
      · rw [if_neg hl];rw [if_neg (fun h'=>((hL j).1 h').elim hne hl)] at h;exact h
theorem zlJ (h:Found X A l τ0 σB fr0 xs es fs Ks Cs) {i:Nat} {o:Oper} (ho:l[i]?=some o) {L:Nat→Bool} (hj:∀ t∈o.looksAt A, ∀ j,wrO l t=some j→(L j=true↔j < i)) {t:Nat} {x:VV} (hx:look (restr A o (fs i)) t=some x):FL l fr0 xs L t=some x:=by
  rw [zgg] at hx
  split at hx
  · rename_i hc
    have hm:t∈o.looksAt A:=by simpa using hc
    rw [h.look_ i (Nat.le_of_lt (List.getElem?_eq_some_iff.1 ho).1) t] at hx
    unfold FL at hx ⊢
    cases hw:wrO l t with
    | none=>rw [hw] at hx;exact hx
    | some j =>
      rw [hw] at hx
      simp only at hx ⊢
      have:=hj t hm j hw
      by_cases hl:L j=true
      · rw [if_pos hl];rw [if_pos (by simpa using this.1 hl)] at hx;exact hx
      · rw [if_neg hl];rw [if_neg (by simpa using fun h'=>hl (this.2 h'))] at hx;exact hx
  · cases hx
theorem zgH (h:Found X A l τ0 σB fr0 xs es fs Ks Cs) {i:Nat} {o:Oper} {d:Nat} (ho:l[i]?=some o) (hd:o.dst=some d) (hm:(es i).makes≠none) {L:Nat→Bool} (hun:L i=false) (hcl:∀ j p,l[j]?=some p→L j=true→ ∀ e∈p.after,Region.binds .any e=true→L e.on=true)
    {t:Nat} {x:VV} (hx:FL l fr0 xs L t=some x):stripV d x=x:=by
  obtain ⟨h1,h2⟩:=h.free ho hd hm
  unfold FL at hx
  split at hx
  · rename_i j hj
    split at hx
    · rename_i hl
      injection hx with hx;subst hx
      obtain ⟨p,hp,hpd⟩:=zcA hj
      refine (h2 j p t (fun e=>by rw [e,hun] at hl;cases hl) hp hpd).resolve_left fun hon=>?_
      obtain ⟨e,he,hb,rfl⟩:=zbo hon
      rw [hcl j p hp hl e he hb] at hun
      cases hun
    · exact h1 _ (zaD hx)
  · exact h1 _ (zaD hx)
theorem TokL.same {L L':Nat→Bool} {i:Nat} (hL:∀ j,L' j=true↔(j=i∨L j=true)) (hm:(es i).makes=none) {k:Nat} {ob:Ob} (h:TokL l τ0 es L' k ob):TokL l τ0 es L k ob:=by
  refine ⟨fun c hc hl=>h.1 c hc ((hL c).2 (.inr hl)),h.2.imp id fun ⟨j,o,hj,ho,hd,hk⟩=>⟨j,o,((hL j).1 hj).resolve_left (fun e=>?_),ho,hd,hk⟩⟩
  rw [e,hm] at hk;cases hk
theorem MutL.same {L L':Nat→Bool} {i:Nat} (hL:∀ j,L' j=true↔(j=i∨L j=true)) (hm:(es i).rep=none) {k:Nat} {ob:Ob} (h:MutL l es L' k ob):MutL l es L k ob:=by
  obtain ⟨j,o,b,hj,ho,he⟩:=h
  refine ⟨j,o,b,((hL j).1 hj).resolve_left (fun e=>?_),ho,he⟩
  rw [← e,he] at hm;cases hm
theorem TokL.new (h:Found X A l τ0 σB fr0 xs es fs Ks Cs) {i:Nat} {o:Oper} {d:Nat} (ho:l[i]?=some o) (hd:o.dst=some d) {ob0:Ob} (hm:(es i).makes=some ob0) {L L':Nat→Bool} (hL:∀ j,L' j=true↔(j=i∨L j=true)) {k:Nat} {ob:Ob} (hk:TokL l τ0 es L' k ob) :
    (k=d∧ob=ob0)∨(k≠d∧TokL l τ0 es L k ob∧stripO d ob=ob):=by
  by_cases hkd:k=d
  · left
    subst hkd
    rcases hk.2 with h1 | ⟨j,p,_,hp,hpd,hpm⟩
    · exact absurd rfl (((h.at_ i o ho).1.new k hd (by rw [hm];simp)).2.2 _ h1).1
    · have e1:=(zbp h.ok hp).1 k hpd
      rw [(zbp h.ok ho).1 k hd] at e1
      injection e1 with e1
      subst e1
      rw [hm] at hpm
      injection hpm with hpm
      exact ⟨rfl,hpm.symm⟩
  · right
    have hne:∀ (j:Nat) (p:Oper),l[j]?=some p→p.dst=some k→j≠i:=fun j p hp hpd e1=>by
      subst e1
      rw [ho] at hp
      injection hp with hp
      rw [← hp,hd] at hpd
      injection hpd with hpd
      exact hkd hpd.symm
    have hso:stripO d ob=ob:=by
      rcases hk.2 with h1 | ⟨_,_,_,_,_,h1⟩
      · exact (((h.at_ i o ho).1.new d hd (by rw [hm];simp)).2.2 _ h1).2
      · exact zjc h1 d
    exact ⟨hkd,⟨fun c hc hl=>hk.1 c hc ((hL c).2 (.inr hl)),hk.2.imp id fun ⟨j,p,hj,hp,hpd,hpm⟩=>⟨j,p,((hL j).1 hj).resolve_left (hne j p hp hpd),hp,hpd,hpm⟩⟩,hso⟩
theorem MutL.old (h:Found X A l τ0 σB fr0 xs es fs Ks Cs) {i:Nat} {o:Oper} {d:Nat} (ho:l[i]?=some o) (hd:o.dst=some d) (hm:(es i).makes≠none) {L L':Nat→Bool} (hL:∀ j,L' j=true↔(j=i∨L j=true)) (hun:L i=false)
    (hcl:∀ j p,l[j]?=some p→L j=true→ ∀ e∈p.after,Region.binds .any e=true→L e.on=true) (n3:∀ p∈τ0,p.1≠d∧stripO d p.2=p.2) {k:Nat} {ob:Ob} (hk:MutL l es L' k ob):k≠d∧ ∀ d,stripO d ob=ob:=by
  obtain ⟨j,p,b,hj,hp,he⟩:=hk
  obtain ⟨hs, -⟩:=h.at_ j p hp
  have hdo:=hs.does
  rw [he] at hdo
  refine ⟨fun e=>?_,hdo.2.2.2.1⟩
  rcases (hs.srcm k b ob he).2.2 with h1 | ⟨c,hc,e1,_,hon⟩
  · exact (n3 _ h1).1 e
  · obtain ⟨_,o',g2,g3,_⟩:=(h.keys j (Nat.le_of_lt (List.getElem?_eq_some_iff.1 hp).1)).2.1 c hc
    have w1:=(zbp h.ok g2).1 c.d g3
    have w2:=(zbp h.ok ho).1 d hd
    rw [e1,e,w2] at w1
    injection w1 with w1
    rcases (hL j).1 hj with rfl|hjL
    · rw [he] at hm;exact hm rfl
    · obtain ⟨e',he',hb,hie⟩:=zbo hon
      have:=hcl j p hp hjL e' he' hb
      rw [hie,← w1,hun] at this;cases this
theorem zcM {fr:Fr} {o:Oper} {t:Nat} {x y:VV} (h:(o.dst=some t∧x=y)∨(o.dst≠some t∧look fr t=some x)):look (putF fr o.dst y) t=some x:=by
  rcases h with ⟨h1,rfl⟩ | ⟨h1,h2⟩
  · rw [h1,zbv,zap,if_pos rfl]
  · cases hd:o.dst with
    | none=>rw [zbL];exact h2
    | some d=>rw [zbv,zap,if_neg (fun e=>h1 (by rw [hd,e]))];exact h2
theorem InvL.step (h:Found X A l τ0 σB fr0 xs es fs Ks Cs) {i:Nat} {o:Oper} (ho:l[i]?=some o) {L L':Nat→Bool} (hL:∀ j,L' j=true↔(j=i∨L j=true)) (hun:L i=false) (hdeps:∀ e∈o.after,Region.binds .any e=true→L e.on=true)
    (hcl:∀ j p,l[j]?=some p→L j=true→ ∀ e∈p.after,Region.binds .any e=true→L e.on=true) (hinv:InvL X l τ0 σB fr0 xs es L a w) :
    (Region.wanted o (yielded A a.tmps)=true∧OutcS X o a w (fun v w'=>InvL X l τ0 σB fr0 xs es L' (a.put o.dst v) w'))∨
    (Region.wanted o (yielded A a.tmps)=false∧InvL X l τ0 σB fr0 xs es L' (a.put o.dst undef) w):=by
  obtain ⟨hs, -, -, -⟩:=h.at_ i o ho
  have hreg:=zbp h.ok ho
  have hil:i < l.length:=(List.getElem?_eq_some_iff.1 ho).1
  obtain ⟨γ,T,S,frL,σL,hr,hF,hB,hK⟩:=hinv
  have hj:∀ t∈o.looksAt A, ∀ j,wrO l t=some j→(L j=true↔j < i):=by
    intro t ht j hwr
    rcases hreg.2.2 t ht j hwr with h1 | ⟨p,hp,h1⟩
    · obtain ⟨e,he,hb,rfl⟩:=zbo h1
      exact ⟨fun _=>hreg.2.1 e he hb,fun _=>hdeps e he hb⟩
    · obtain ⟨e,he,hb,rfl⟩:=zbo h1
      have h3:=(zbp h.ok hp).2.1 e he hb
      refine ⟨fun h4=>?_,fun h4=>by omega⟩
      rw [hcl j p hp h4 e he hb] at hun
      cases hun
  have hsub:∀ t x,look (restr A o (fs i)) t=some x→look frL t=some x:=fun t x hx=>hF t x (zlJ h ho hj hx)
  have hr1:Rel X γ T S w (restr A o (fs i)) σB a:=hr.sub hsub hB
  have hstep:∀ {t:Nat} {x:VV},FL l fr0 xs L' t=some x→(o.dst=some t∧x=xs i)∨(o.dst≠some t∧FL l fr0 xs L t=some x):=fun hx=>zoi h.ok ho hL hx
  obtain ⟨hdst,hmen,hdoes,hnew,hsrc,hsrcm⟩:=hs
  cases heff:es i with
  | none =>
    rw [heff] at hdoes
    have hm:(es i).makes=none:=by rw [heff];rfl
    have hrp:(es i).rep=none:=by rw [heff];rfl
    rcases hdoes with ⟨hw,hx⟩ | ⟨hw,hd⟩
    · right
      refine ⟨zam hr1 hw,γ,T,S,_,σL,hr.put hdst off_,fun t x hx'=>zcM ?_,hB,fun k ob hk=>hK k ob (hk.imp (·.same hL hm) (·.same hL hrp))⟩
      exact (hstep hx').imp (fun h1=>⟨h1.1,h1.2.trans hx⟩) (fun h1=>⟨h1.1,hF t x h1.2⟩)
    · left
      refine ⟨zam hr1 hw,.inl ((hd γ T S w a hr1).mono fun v w' ⟨S',⟨hb,hS,hS'⟩,hv⟩=>⟨γ,T,S',_,σL,(hr.grow hb hS hS').put hdst hv,fun t x hx'=>zcM ?_,hB,fun k ob hk=>hK k ob (hk.imp (·.same hL hm) (·.same hL hrp))⟩)⟩
      exact (hstep hx').imp id (fun h1=>⟨h1.1,hF t x h1.2⟩)
  | mk e sz =>
    rw [heff] at hdoes
    obtain ⟨hw,d,rows,hd,hx,hdo⟩:=hdoes
    have hm:(es i).makes=some (.tok e sz):=by rw [heff];rfl
    have hmn:(es i).makes≠none:=by rw [hm];simp
    have hrp:(es i).rep=none:=by rw [heff];rfl
    obtain ⟨n1,n2,n3⟩:=hnew d hd hmn
    left
    refine ⟨zam hr1 hw,.inl ((hdo γ T S w a hr1).mono fun v w' ⟨S',⟨hb,hS,hS'⟩,hv⟩=>?_)⟩
    obtain ⟨T',q1,q2⟩:=hr.back (d:=some d) hb hS hS' hv rfl
    refine ⟨γ,T',S',_,_,q1.put hdst q2,fun t x hx'=>zcM ?_,fun k ob hk=>?_,fun k ob hk=>?_⟩
    · refine (hstep hx').imp (fun h1=>⟨h1.1,h1.2.trans hx⟩) (fun h1=>⟨h1.1,?_⟩)
      rw [zco,hF t x h1.2,Option.map_some,zgH h ho hd hmn hun hcl h1.2]
    · obtain ⟨m1,m2⟩:=n2 _ (zaD hk)
      rw [zap,if_neg (Ne.symm m1),zar,hB k ob hk,Option.map_some,if_neg m1,m2]
    · rcases hk with hk|hk
      · rcases hk.new h ho hd hm hL with ⟨rfl,rfl⟩ | ⟨hkd,hk',hso⟩
        · rw [zap,if_pos rfl]
        · rw [zap,if_neg (Ne.symm hkd),zar,hK k ob (.inl hk'),Option.map_some,if_neg hkd,hso]
      · obtain ⟨hkd,hso⟩:=hk.old h ho hd hmn hL hun hcl n3
        rw [zap,if_neg (Ne.symm hkd),zar,hK k ob (.inr (hk.same hL hrp)),Option.map_some,if_neg hkd,hso]
  | app k0 e sz =>
    rw [heff] at hdoes
    obtain ⟨hw,d,rows,hd,hx,hdo⟩:=hdoes
    have hm:(es i).makes=some (.tok e sz):=by rw [heff];rfl
    have hmn:(es i).makes≠none:=by rw [hm];simp
    obtain ⟨n1,n2,n3⟩:=hnew d hd hmn
    obtain ⟨s1,s2,s3⟩:=hsrc k0 e sz heff
    have hcons:(es i).cons=some k0:=by rw [heff];rfl
    have hrp:(es i).rep=none:=by rw [heff];rfl
    have htok:TokL l τ0 es L k0 (.tok e sz):=by
      refine ⟨fun c hc hl hcc=>?_,s3.imp id fun ⟨c,hc,e1,e2,hon⟩=>?_⟩
      · rcases Nat.lt_trichotomy c i with h1|h1|h1
        · rw [zcR ((h.keys i (Nat.le_of_lt hil)).2.2.1 c k0 h1 hcc)] at s1;cases s1
        · rw [h1,hun] at hl;cases hl
        · obtain ⟨o',ho'⟩:∃ o',l[c]?=some o':=⟨_,List.getElem?_eq_getElem hc⟩
          cases hec:es c with
          | none=>rw [hec] at hcc;cases hcc
          | mk e sz=>rw [hec] at hcc;cases hcc
          | alc ty cs=>rw [hec] at hcc;cases hcc
          | app k e4 sz4 =>
            rw [hec] at hcc
            injection hcc with hcc
            subst hcc
            have:=((h.at_ c o' ho').1.src _ _ _ hec).1
            rw [zcR ((h.keys c (Nat.le_of_lt hc)).2.2.1 i _ h1 hcons)] at this;cases this
          | chg k b4 b5 =>
            rw [hec] at hcc
            injection hcc with hcc
            subst hcc
            have:=((h.at_ c o' ho').1.srcm _ _ _ hec).1
            rw [zcR ((h.keys c (Nat.le_of_lt hc)).2.2.1 i _ h1 hcons)] at this;cases this
      · obtain ⟨g1,o',g2,g3,g4⟩:=(h.keys i (Nat.le_of_lt hil)).2.1 c hc
        obtain ⟨e',he',hb,hie⟩:=zbo hon
        exact ⟨c.i,o',by rw [← hie];exact hdeps e' he' hb,g2,by rw [g3,e1],by rw [g4,e2]⟩
    have hkt:=hK k0 _ (.inl htok)
    have hr2:Rel X γ T S w (restr A o (fs i)) [(k0,.tok e sz)] a:=hr.sub hsub fun k ob hk=>by
      simp only [look] at hk
      split at hk
      · rename_i e1;injection hk with hk;subst hk;subst e1;exact hkt
      · cases hk
    left
    refine ⟨zam hr1 hw,.inl ((hdo γ T S w a hr2).mono fun v' w' ⟨S',p1,p2,p3,p4,p5,p6,p7,p8⟩=>?_)⟩
    obtain ⟨q1,q2⟩:=hr.append (d:=d) (rows':=rows) hkt p1 p2 p3 p4 p5 p6 p7 p8
    refine ⟨γ,_,S',_,_,q1.put hdst q2,fun t x hx'=>zcM ?_,fun k ob hk=>?_,fun k ob hk=>?_⟩
    · refine (hstep hx').imp (fun h1=>⟨h1.1,h1.2.trans hx⟩) (fun h1=>⟨h1.1,?_⟩)
      rw [zco,hF t x h1.2,Option.map_some,zgH h ho hd hmn hun hcl h1.2]
    · obtain ⟨m1,m2⟩:=n2 _ (zaD hk)
      have hk0:k0≠k:=fun e1=>by rw [e1,hk] at s2;cases s2
      rw [zap,if_neg (Ne.symm m1),zar,zap,if_neg hk0,hB k ob hk,Option.map_some,if_neg m1,m2]
    · rcases hk with hk|hk
      · rcases hk.new h ho hd hm hL with ⟨rfl,rfl⟩ | ⟨hkd,hk',hso⟩
        · rw [zap,if_pos rfl]
        · have hk0:k0≠k:=fun e1=>hk.1 i hil ((hL i).2 (.inl rfl)) (by rw [hcons,e1])
          rw [zap,if_neg (Ne.symm hkd),zar,zap,if_neg hk0,hK k ob (.inl hk'),Option.map_some,if_neg hkd,hso]
      · obtain ⟨hkd,hso⟩:=hk.old h ho hd hmn hL hun hcl n3
        have hk':=hk.same hL hrp
        have hk0:k0≠k:=fun e1=>by
          obtain ⟨j,p,b',hjL,hp,hej⟩:=hk'
          exact htok.1 j (List.getElem?_eq_some_iff.1 hp).1 hjL (by rw [hej,e1];rfl)
        rw [zap,if_neg (Ne.symm hkd),zar,zap,if_neg hk0,hK k ob (.inr hk'),Option.map_some,if_neg hkd,hso]
  | chg k0 ob0 ob1 =>
    rw [heff] at hdoes
    obtain ⟨hw,hb0,hb1,hstr,hdo⟩:=hdoes
    have hm:(es i).makes=none:=by rw [heff];rfl
    obtain ⟨s1,s2,s3⟩:=hsrcm k0 ob0 ob1 heff
    have hcons:(es i).cons=some k0:=by rw [heff];rfl
    have htok:TokL l τ0 es L k0 ob0:=by
      refine ⟨?_,s3.imp id fun ⟨c,hc,e1,e2,hon⟩=>?_⟩
      rotate_left
      · obtain ⟨g1,o',g2,g3,g4⟩:=(h.keys i (Nat.le_of_lt hil)).2.1 c hc
        obtain ⟨e',he',hb,hie⟩:=zbo hon
        exact ⟨c.i,o',by rw [← hie];exact hdeps e' he' hb,g2,by rw [g3,e1],by rw [g4,e2]⟩
      intro c hc hl hcc
      rcases Nat.lt_trichotomy c i with h1|h1|h1
      · rw [zcR ((h.keys i (Nat.le_of_lt hil)).2.2.1 c k0 h1 hcc)] at s1;cases s1
      · rw [h1,hun] at hl;cases hl
      · obtain ⟨o',ho'⟩:∃ o',l[c]?=some o':=⟨_,List.getElem?_eq_getElem hc⟩
        cases hec:es c with
        | none=>rw [hec] at hcc;cases hcc
        | mk e sz=>rw [hec] at hcc;cases hcc
        | alc ty cs=>rw [hec] at hcc;cases hcc
        | app k e4 sz4 =>
          rw [hec] at hcc
          injection hcc with hcc
          subst hcc
          have:=((h.at_ c o' ho').1.src _ _ _ hec).1
          rw [zcR ((h.keys c (Nat.le_of_lt hc)).2.2.1 i _ h1 hcons)] at this;cases this
        | chg k b4 b5 =>
          rw [hec] at hcc
          injection hcc with hcc
          subst hcc
          have:=((h.at_ c o' ho').1.srcm _ _ _ hec).1
          rw [zcR ((h.keys c (Nat.le_of_lt hc)).2.2.1 i _ h1 hcons)] at this;cases this
    have hkt:=hK k0 _ (.inl htok)
    have hr2:Rel X γ T S w (restr A o (fs i)) [(k0,ob0)] a:=hr.sub hsub fun k ob hk=>by
      simp only [look] at hk
      split at hk
      · rename_i e1;injection hk with hk;subst hk;subst e1;exact hkt
      · cases hk
    left
    refine ⟨zam hr1 hw,(hdo γ T S w a hr2).mono fun v w' ⟨p1,p2,p3⟩=>?_⟩
    obtain ⟨q1,_⟩:=hr.chg hkt hb0 hb1 p1 p2
    refine ⟨γ,T,S,_,_,q1.put hdst p3,fun t x hx'=>zcM ?_,fun k ob hk=>?_,fun k ob hk=>?_⟩
    · exact (hstep hx').imp id (fun h1=>⟨h1.1,hF t x h1.2⟩)
    · have hk0:k0≠k:=fun e1=>by rw [e1,hk] at s2;cases s2
      rw [zap,if_neg hk0];exact hB k ob hk
    · by_cases hk0:k0=k
      · subst hk0
        rw [zap,if_pos rfl]
        rcases hk with hk | ⟨j,p,b,hjL,hp,hej⟩
        · exact absurd hcons (hk.1 i hil ((hL i).2 (.inl rfl)))
        · rcases (hL j).1 hjL with rfl|hjL
          · rw [heff] at hej;injection hej with _ _ hej;rw [hej]
          · exact absurd (by rw [hej];rfl) (htok.1 j (List.getElem?_eq_some_iff.1 hp).1 hjL)
      · rw [zap,if_neg hk0]
        refine hK k ob (hk.imp (·.same hL hm) fun ⟨j,p,b,hjL,hp,hej⟩=>⟨j,p,b,((hL j).1 hjL).resolve_left (fun e1=>?_),hp,hej⟩)
        subst e1
        rw [heff] at hej
        injection hej with hej
        exact hk0 hej
  | alc ty cs =>
    rw [heff] at hdoes
    obtain ⟨hw,d,hd,hx,hdo⟩:=hdoes
    have hm:(es i).makes=some (.box ty cs):=by rw [heff];rfl
    have hmn:(es i).makes≠none:=by rw [hm];simp
    have hrp:(es i).rep=none:=by rw [heff];rfl
    obtain ⟨n1,n2,n3⟩:=hnew d hd hmn
    left
    refine ⟨zam hr1 hw,.inl ((hdo γ T S w a hr1).mono fun v w' ⟨us,hw',hv,hcs⟩=>?_)⟩
    subst hw'
    have q1:=hr.alloc d us ty (.box ty cs) (fun γ' _ hγ=>⟨us,by rw [hγ];exact heap_alloc_new w _,hcs,fun o=>by rw [hγ];exact (za6 hr _ (Nat.le_refl _)).1 o,by rw [hγ];exact (za6 hr _ (Nat.le_refl _)).2⟩) (fun γ' b hb'=>hb')
    refine ⟨_,T,S,_,_,q1.put (x:=.one (.po d 0)) hdst (.one (by rw [hv];simp only [RC,zaq])),fun t x hx'=>zcM ?_,fun k ob hk=>?_,fun k ob hk=>?_⟩
    · refine (hstep hx').imp (fun h1=>⟨h1.1,h1.2.trans hx⟩) (fun h1=>⟨h1.1,?_⟩)
      rw [zco,hF t x h1.2,Option.map_some,zgH h ho hd hmn hun hcl h1.2]
    · obtain ⟨m1,m2⟩:=n2 _ (zaD hk)
      rw [zap,if_neg (Ne.symm m1),zar,hB k ob hk,Option.map_some,if_neg m1,m2]
    · rcases hk with hk|hk
      · rcases hk.new h ho hd hm hL with ⟨rfl,rfl⟩ | ⟨hkd,hk',hso⟩
        · rw [zap,if_pos rfl]
        · rw [zap,if_neg (Ne.symm hkd),zar,hK k ob (.inl hk'),Option.map_some,if_neg hkd,hso]
      · obtain ⟨hkd,hso⟩:=hk.old h ho hd hmn hL hun hcl n3
        rw [zap,if_neg (Ne.symm hkd),zar,hK k ob (.inr (hk.same hL hrp)),Option.map_some,if_neg hkd,hso]
theorem zeu {α:Type}:∀ (l m:List (Nat × α)) {k:Nat} {x:α},look (l++m) k=some x→look l k=some x∨look m k=some x
  | [],_,_,_,h=>.inr h
  | (t,y) :: l,m,k,x,h=>by
    rw [List.cons_append,zap] at h
    rw [zap]
    split at h
    · rename_i e;rw [if_pos e];exact .inl h
    · rename_i e;rw [if_neg e];exact zeu l m h
theorem InvL.done (h:Found X A l τ0 σB fr0 xs es fs Ks Cs) {L:Nat→Bool} (hall:∀ i,i < l.length→L i=true) (hinv:InvL X l τ0 σB fr0 xs es L a w) :
    ∃ γ T S,Rel X γ T S w (fs l.length) (finS τ0 σB (Ks l.length) (Cs l.length)) a:=by
  obtain ⟨γ,T,S,frL,σL,hr,hF,hB,hK⟩:=hinv
  obtain ⟨h1,h2,h3,h4⟩:=h.keys l.length (Nat.le_refl _)
  have hcons:∀ k,hasC (Cs l.length) k=false→ ∀ c,c < l.length→L c=true→(es c).cons≠some k:=fun k hk c hc _ hcc=>by rw [zcR (h3 c k hc hcc)] at hk;cases hk
  refine ⟨γ,T,S,hr.sub (fun t x hx=>hF t x ?_) fun k ob hk=>?_⟩
  · rw [h.look_ _ (Nat.le_refl _)] at hx
    unfold FL at hx ⊢
    cases hw:wrO l t with
    | none=>rw [hw] at hx;exact hx
    | some j =>
      rw [hw] at hx
      obtain ⟨o,ho,_⟩:=zcA hw
      have hlt:=(List.getElem?_eq_some_iff.1 ho).1
      simp only [hall j hlt,hlt,decide_true,if_true] at hx ⊢
      exact hx
  · unfold finS at hk
    rcases zeu _ _ hk with hk|hk
    · obtain ⟨⟨k',r⟩,hc,he⟩:=List.mem_filterMap.1 (zaD hk)
      rw [Option.map_eq_some_iff] at he
      obtain ⟨ob',e1,e2⟩:=he
      simp only at e1 e2
      subst e1
      injection e2 with e2 e3
      subst e2;subst e3
      obtain ⟨j,o,b,g1,g2,g3⟩:=h4 _ _ hc
      exact hK _ _ (.inr ⟨j,o,b,hall _ g1,g2,g3⟩)
    · rcases zeu _ _ hk with hk|hk
      · rcases zeu _ _ hk with hk|hk
        · obtain ⟨c,hc,he⟩:=List.mem_map.1 (zaD hk)
          obtain ⟨hc1,hc2⟩:=List.mem_filter.1 hc
          injection he with he1 he2
          subst he1;subst he2
          obtain ⟨g1,o,g2,g3,g4⟩:=h2 c hc1
          exact hK _ _ (.inl ⟨hcons _ (by simpa using hc2),.inr ⟨c.i,o,hall _ g1,g2,g3,g4⟩⟩)
        · obtain ⟨hc1,hc2⟩:=List.mem_filter.1 (zaD hk)
          exact hK _ _ (.inl ⟨hcons _ (by simpa using hc2),.inl hc1⟩)
      · exact hB k ob hk
theorem zjj (h:Found X l.toArray l τ0 σB fr0 xs es fs Ks Cs) {QQ:Exit→Act→World→Prop} (hq:∀ γ T S w a,Rel X γ T S w (fs l.length) (finS τ0 σB (Ks l.length) (Cs l.length)) a→QQ .normal a w):∀ (fuel:Nat) (listed:Array Bool) (a:Act) (w:World),listed.size=l.length→
    (∀ i o,l[i]?=some o→listed.getD i true=true→ ∀ e∈o.after,Region.binds .any e=true→listed.getD e.on true=true)→fuel=(listed.toList.filter (fun b=>!b)).length→InvL X l τ0 σB fr0 xs es (fun j=>listed.getD j true) a w→wpAny X.P .any l.toArray QQ fuel listed a w:=by
  have done:∀ (listed:Array Bool) (a:Act) (w:World),InvL X l τ0 σB fr0 xs es (fun j=>listed.getD j true) a w→(∀ i,i < l.length→listed.getD i true=true)→QQ .normal a w:=by
    intro listed a w hf hall
    obtain ⟨γ,T,S,hr⟩:=hf.done h hall
    exact hq γ T S w a hr
  have tf:∀ (listed:Array Bool) (j:Nat),listed.size=l.length→j < l.length→(listed.getD j false=listed.getD j true):=by
    intro listed j hsz hj
    have:j < listed.size:=by omega
    simp only [Array.getD,this,dif_pos]
  have none_ready:∀ (listed:Array Bool),listed.size=l.length→Region.ready .any l.toArray listed=[]→ ∀ i,i < l.length→listed.getD i true=true:=by
    intro listed hsz hr i
    induction i using Nat.strongRecOn with
    | _ i ih =>
      intro hi
      cases hb:listed.getD i true with
      | true=>rfl
      | false =>
        have ho:l[i]?=some l[i]:=List.getElem?_eq_getElem hi
        have:i∈Region.ready .any l.toArray listed:=mem_ready.2 ⟨hb,l[i],by simp [ho],fun e he hb=>by
          have hlt:=(zbp h.ok ho).2.1 e he hb
          rw [tf listed _ hsz (by omega)]
          exact ih e.on hlt (by omega)⟩
        rw [hr] at this
        cases this
  intro fuel
  induction fuel with
  | zero =>
    intro listed a w hsz hcl hf hfr
    have hall:∀ i,i < l.length→listed.getD i true=true:=fun i hi=>by
      have hlt:i < listed.size:=by omega
      have hn:=List.eq_nil_of_length_eq_zero hf.symm
      rw [List.filter_eq_nil_iff] at hn
      have:=hn listed[i] (by simp)
      simp only [Array.getD,hlt,dif_pos]
      simpa using this
    refine ⟨?_,done listed a w hfr hall⟩
    rw [List.eq_nil_iff_forall_not_mem]
    intro i hi
    obtain ⟨h1,o,ho,_⟩:=mem_ready.1 hi
    rw [hall i (by simpa using (Array.getElem?_eq_some_iff.1 ho).1)] at h1
    cases h1
  | succ fuel ih =>
    intro listed a w hsz hcl hf hfr
    refine ⟨fun hr=>done listed a w hfr (none_ready listed hsz hr),fun i hi=>?_⟩
    obtain ⟨hun,o,ho,hdeps⟩:=mem_ready.1 hi
    have ho':l[i]?=some o:=by simpa using ho
    have hlt:i < l.length:=(List.getElem?_eq_some_iff.1 ho').1
    have hreg:=zbp h.ok ho'
    have hdeps':∀ e∈o.after,Region.binds .any e=true→listed.getD e.on true=true:=fun e he hb=>by
      rw [← tf listed _ hsz (by have:=hreg.2.1 e he hb;omega)];exact hdeps e he hb
    have hL:∀ j,(listed.setIfInBounds i true).getD j true=true↔(j=i∨listed.getD j true=true):=by
      intro j
      by_cases hij:i=j
      · subst hij
        have:i < listed.size:=by omega
        simp [this]
      · rw [getD_set_ne true hij];simp [Ne.symm hij]
    have hcl':∀ j p,l[j]?=some p→(listed.setIfInBounds i true).getD j true=true→ ∀ e∈p.after,Region.binds .any e=true→(listed.setIfInBounds i true).getD e.on true=true:=by
      intro j p hp hj e he hb
      refine (hL _).2 (.inr ?_)
      rcases (hL j).1 hj with rfl|hj
      · rw [ho'] at hp
        injection hp with hp
        subst hp
        exact hdeps' e he hb
      · exact hcl j p hp hj e he hb
    have hfuel:fuel=((listed.setIfInBounds i true).toList.filter (fun b=>!b)).length:=by
      have hil:i < listed.size:=by omega
      have hfi:listed[i]=false:=by simpa [Array.getD,hil] using hun
      have hc:∀ (l:List Bool) (k:Nat) (hkl:k < l.length),l[k]=false→((l.set k true).filter (fun b=>!b)).length+1=(l.filter (fun b=>!b)).length:=by
        intro l
        induction l with
        | nil=>intro k hkl;simp at hkl
        | cons b l ih2 =>
          intro k hkl hb
          cases k with
          | zero=>simp only [List.getElem_cons_zero] at hb;subst hb;simp
          | succ k =>
            simp only [List.getElem_cons_succ] at hb
            have:=ih2 k (by simpa using hkl) hb
            cases b<;>simp at this ⊢ <;> omega
      have:=hc listed.toList i (by simpa using hil) (by simpa using hfi)
      rw [Array.toList_setIfInBounds]
      omega
    have go:∀ a' w',InvL X l τ0 σB fr0 xs es (fun j=>(listed.setIfInBounds i true).getD j true) a' w'→wpAny X.P .any l.toArray QQ fuel (listed.setIfInBounds i true) a' w':=fun a' w' hw'=>ih _ _ w' (by simpa using hsz) hcl' hfuel hw'
    unfold wpOp
    simp only [ho]
    rcases hfr.step h ho' (L':=fun j=>(listed.setIfInBounds i true).getD j true) hL hun hdeps' hcl with ⟨hw,hout⟩ | ⟨hw,hinv⟩
    · rw [if_pos hw]
      exact .inl (hout.wp fun v w' hv=>go _ w' hv)
    · rw [if_neg (by rw [hw];decide)]
      exact go _ w hinv
theorem znK {id:Nat} {l:List Oper} {QQ:Exit→Fr→Obs→Prop} (hm:X.P.follows .mixedOrders=true) (τ0 σB:Obs) (hok:regOk l=true) (hs1:∀ p∈τ0,look σ p.1=some p.2) (hs2:Sub σB σ) (h:DSeq X l.toArray τ0 σB (QQ .normal) 0 [] [] l fr):W X (.region id l.toArray true) fr σ QQ :=
  ⟨fun γ T S w a hr=>by
    obtain ⟨xs,es,fs,Ks,Cs,h1,h2,h3,h4,h5⟩:=zdw l 0 [] [] fr h
    simp only [Nat.zero_add] at h4 h5
    have hF:Found X l.toArray l τ0 σB fr xs es fs Ks Cs:=⟨zom hok,h1,h2,h3,h4⟩
    refine wp_region_any hm ?_
    have hr0:Rel X γ T S { w with drawn:=w.drawn+1 } fr σ a:=hr.grow ⟨rfl,rfl,rfl,Nat.le_refl _,fun _ _=>rfl⟩ (fun _ _ h=>h) (fun _ _ h=>.inl h)
    have hun:∀ j,j < l.length→¬ (Array.replicate l.length false).getD j true=true:=fun j hj=>by
      simp only [Array.getD,Array.size_replicate,hj,dif_pos]
      simp
    have key:=zjj hF (QQ:=LQ X QQ) (fun γ T S w a hr=>⟨γ,T,S,_,_,hr,h5⟩) l.length (Array.replicate l.length false) a { w with drawn:=w.drawn+1 } (by simp) (fun i o ho hi=>absurd hi (hun i (List.getElem?_eq_some_iff.1 ho).1)) (by simp)
      ⟨γ,T,S,fr,σ,hr0,fun t x hx=>?_,hs2,fun k ob hk=>?_⟩
    · have hsz:l.toArray.size=l.length:=by simp
      rw [hsz];exact key
    · unfold FL at hx
      cases hw:wrO l t with
      | none=>rw [hw] at hx;exact hx
      | some j =>
        rw [hw] at hx
        obtain ⟨p,hp,_⟩:=zcA hw
        simp only [if_neg (hun j (List.getElem?_eq_some_iff.1 hp).1)] at hx
        exact hx
    · rcases hk with hk | ⟨j,o,b,hj,ho,_⟩
      · rcases hk.2 with h6 | ⟨j,o,hj,ho,_⟩
        · exact hs1 _ h6
        · exact absurd hj (hun j (List.getElem?_eq_some_iff.1 ho).1)
      · exact absurd hj (hun j (List.getElem?_eq_some_iff.1 ho).1)⟩
end
end
section
variable {X:Ctx} {γ γ':Nat→Nat} {T T':Nat→Value} {S S':Nat→Nat→Prop} {w w':World} {fr fr':Fr} {σ σ':Obs} {a:Act} {o:Oper}
variable {ops:Array Oper} {τ0 σB:Obs} {K:List Cr} {C:Cons} {rest:List Oper} {QD:Fr→Obs→Prop} {i d:Nat} {x:VV}
def MenOk (o:Oper) (K:List Cr) (x:VV):Prop:=∀ c∈K,onO o c.i=true∨stripV c.d x=x
theorem zax (o:Oper) (x:VV):MenOk o [] x:=fun c h=>by cases h
theorem zau {c:Cr} (h:onO o c.i=true∨stripV c.d x=x) (k:MenOk o K x):MenOk o (c :: K) x:=fun c' h'=>by
  rcases List.mem_cons.1 h' with rfl|h'
  · exact h
  · exact k c' h'
def FreeF (d:Nat) (fr:Fr):Prop:=∀ p∈fr,stripV d p.2=p.2
theorem zc3 (d:Nat):FreeF d []:=fun p h=>by cases h
theorem zcH {t:Nat} (h:stripV d x=x) (k:FreeF d fr):FreeF d ((t,x) :: fr):=fun p h'=>by
  rcases List.mem_cons.1 h' with rfl|h'
  · exact h
  · exact k p h'
def FreeS (d:Nat) (σ:Obs):Prop:=∀ p∈σ,p.1≠d∧stripO d p.2=p.2
theorem zbu (d:Nat):FreeS d []:=fun p h=>by cases h
theorem zbf {t:Nat} {ob:Ob} (h:Nat.beq t d=false) (h2:stripO d ob=ob) (k:FreeS d σ):FreeS d ((t,ob) :: σ):=fun p h'=>by
  rcases List.mem_cons.1 h' with rfl|h'
  · exact ⟨fun e=>(by simp only at e;subst e;rw [Nat.beq_refl] at h;cases h),h2⟩
  · exact k p h'
theorem zqe {σ1:Obs} (hσ:finS τ0 σB K C=σ1) (h:QD fr σ1):DSeq X ops τ0 σB QD i K C [] fr:=by subst hσ;exact h
theorem za3 (S:Nat→Nat→Prop) (w:World):Grows S S w w:=⟨Below.refl _ _,fun _ _ h=>h,fun _ _ h=>.inl h⟩
theorem zbS (hdst:o.dst=some d) (hd:Nat.blt d X.nt=true) (hm:MenOk o K x) (hdo:Does X ops o (restr ops o fr) σB x .none) (h:DSeq X ops τ0 σB QD (i+1) K C rest ((d,x) :: fr)):DSeq X ops τ0 σB QD i K C (o :: rest) fr :=
  ⟨x,.none,⟨by rw [hdst];exact hd,hm,hdo,fun _ _ hne=>absurd rfl hne,fun k e sz h=>(by cases h),fun k ob ob' h=>(by cases h)⟩,by rw [hdst];exact h⟩
theorem D_p (hT:Good X) (hdst:o.dst=some d) (hd:Nat.blt d X.nt=true) (hw:wantA ops o (restr ops o fr)=some true) (hv:aop X o (restr ops o fr) σB=some ⟨x,restr ops o fr,σB⟩) (hm:MenOk o K x) (h:DSeq X ops τ0 σB QD (i+1) K C rest ((d,x) :: fr)):DSeq X ops τ0 σB QD i K C (o :: rest) fr :=
  zbS hdst hd hm (.inr ⟨hw,fun γ T S w a hr=>by
    obtain ⟨v,h1,h2⟩:=zn1 hT hv γ T S w a hr
    exact .inl ⟨v,w,h1,S,za3 S w,h2⟩⟩) h
theorem D_o (hdst:o.dst=some d) (hd:Nat.blt d X.nt=true) (hw:wantA ops o (restr ops o fr)=some false) (h:DSeq X ops τ0 σB QD (i+1) K C rest ((d,.tup []) :: fr)):DSeq X ops τ0 σB QD i K C (o :: rest) fr :=
  zbS hdst hd (fun _ _=>.inr rfl) (.inl ⟨hw,rfl⟩) h
theorem D_c {f:FuncId} {xs:Array Operand} {ats:Array TypeId} {args:List VV} (hdst:o.dst=some d) (hd:Nat.blt d X.nt=true) (hw:wantA ops o (restr ops o fr)=some true) (ho:o.op=.call { callee:=.value (.func f),args:=xs,argTypes:=ats })
    (ha:argsL (restr ops o fr) xs.toList=some args) (hc:CallsV X.P f args (.val x)) (hm:MenOk o K x) (h:DSeq X ops τ0 σB QD (i+1) K C rest ((d,x) :: fr)):DSeq X ops τ0 σB QD i K C (o :: rest) fr :=
  zbS hdst hd hm (.inr ⟨hw,fun γ T S w a hr=>.inr ⟨f,_,by rw [zbs ho,hc.ent],(hc.out S w _ (zbg hr ha) hr.st.lt).mono fun e w' ⟨v,S',h1,hb,hS,hS',hv⟩=>⟨v,h1,S',⟨hb,hS,hS'⟩,hv γ T⟩⟩⟩) h
theorem D_mk {e:TypeId} {sz:Nat} {rows:List (List D)} (hdst:o.dst=some d) (hd:Nat.blt d X.nt=true) (hw:wantA ops o (restr ops o fr)=some true) (hm:MenOk o K (.one (.own d rows))) (hf:FreeF d fr) (hs:FreeS d σB) (ht:FreeS d τ0)
    (hdo:∀ γ T S w a,Rel X γ T S w (restr ops o fr) σB a→Outc X o a w (fun v w'=>∃ S',Grows S S' w w'∧ResR S' w w' v (.own e sz rows))) (h:DSeq X ops τ0 σB QD (i+1) (⟨d,i,.tok e sz⟩ :: K) C rest ((d,.one (.own d rows)) :: fr)):DSeq X ops τ0 σB QD i K C (o :: rest) fr :=
  ⟨.one (.own d rows),.mk e sz,⟨by rw [hdst];exact hd,hm,⟨hw,d,rows,hdst,rfl,hdo⟩,fun d' h' _=>by
    rw [hdst] at h';injection h' with h';subst h';exact ⟨hf,hs,fun p hp=>ht p hp⟩,fun k e sz h=>(by cases h),fun k ob ob' h=>(by cases h)⟩,by rw [hdst];exact h⟩
theorem zpw {f:FuncId} {xs:Array Operand} {ats:Array TypeId} {args:List VV} {e:TypeId} {sz:Nat} {rows:List (List D)} (hdst:o.dst=some d) (hd:Nat.blt d X.nt=true) (hw:wantA ops o (restr ops o fr)=some true) (ho:o.op=.call { callee:=.value (.func f),args:=xs,argTypes:=ats })
    (ha:argsL (restr ops o fr) xs.toList=some args) (hc:CallsV X.P f args (.own e sz rows)) (hm:MenOk o K (.one (.own d rows))) (hf:FreeF d fr) (hs:FreeS d σB) (ht:FreeS d τ0) (h:DSeq X ops τ0 σB QD (i+1) (⟨d,i,.tok e sz⟩ :: K) C rest ((d,.one (.own d rows)) :: fr)):DSeq X ops τ0 σB QD i K C (o :: rest) fr :=
  D_mk hdst hd hw hm hf hs ht (fun γ T S w a hr=>.inr ⟨f,_,by rw [zbs ho,hc.ent],(hc.out S w _ (zbg hr ha) hr.st.lt).mono fun e w' ⟨v,S',h1,hb,hS,hS',hv⟩=>⟨v,h1,S',⟨hb,hS,hS'⟩,hv⟩⟩) h
theorem zeL {b e sz n:Nat} {v:Value} {xs:List Value} (h:w.ownsRow 0 e sz v n xs) (hb:∀ g,v.ownBlock=some g→b≤g):w.ownsRow b e sz v n xs :=
  ⟨h.1,h.2.imp id fun ⟨g,cap,cur,h1,_,h2⟩=>⟨g,cap,cur,h1,hb g (by rw [h1];rfl),h2⟩⟩
theorem zo7 (hT:Good X) {t:TypeId} {n:Nat} {ps:Array (Nat × Operand)} {ti e:TyI} {rows:List (List D)} (ho:o.op=.buildSlice t n ps) (hi:X.Ty t=some ti) (ht:ti.tag=2) (he:X.Ty ti.elem=some e) (hrows:layR e.size fr 0 ps.toList=some rows) (hn:n=rows.length) (hb:n * e.size≤16777216) (hr:Rel X γ T S w fr σ a) :
    ∃ v w' S',(execOp a.eval o).run X.P w=.ok (.value v) w'∧Grows S S' w w'∧ResR S' w w' v (.own ti.elem e.size rows):=by
  obtain ⟨inf,d,h1,h2,h3,h4,h5,h6,h7,h8,h9,h10⟩:=(hT t ti hi).get
  have hek:=hT _ e he
  obtain ⟨inf',d',h1',h2',h3',h4',h5',_⟩:=hek.get
  rw [ht] at h10
  obtain ⟨vals,g1,g2,g3,g4⟩:=zel hr 0 ps.toList hrows
  cases d with
  | slice el =>
    simp only [elemOfD] at h7
    subst h7
    obtain ⟨S',r1,r2,r3,r4⟩:=hr.fresh 0 ti.elem hek.pos g1 g3 g4 (by have:=hek.pos;have:=Nat.le_mul_of_pos_right n hek.pos;omega)
    have hrun:(Instr.buildSlice t n (ps.map fun p=>(p.1,a.eval p.2))).run X.P w=.ok (.slice (some ⟨w.heap.size,0,none⟩) rows.length rows.length) (w.alloc (.cells (vals.flatMap fun v=>v.cells.toList).toArray ti.elem)):=by
      by_cases hz:n=0
      · subst hz
        have hr0:rows=[]:=List.eq_nil_of_length_eq_zero hn.symm
        subst hr0
        have hv0:vals=[]:=List.eq_nil_of_length_eq_zero g1
        subst hv0
        have hp0:ps = #[]:=by
          have e2:ps.toList=[]:=by simpa using g2
          simpa using e2
        subst hp0
        simp [Instr.buildSlice,run_underlying h2,zaP h1',newRow,Instr.fill,show Array.range 0 = #[] from rfl]
      · rw [← hn]
        refine run_buildSlice w t ti.elem n _ _ inf' _ h2 h1' h5' (by rw [h3'];omega) (by rw [h3'];have:=Nat.mul_pos (Nat.pos_of_ne_zero hz) hek.pos;omega) ?_
        rw [h3',Array.toList_map,g2]
        exact Great.fill_whole hek.pos vals _ g3 (by simp [g1,← hn])
    refine ⟨_,_,S',by simp only [execOp,ho,Sem.run_bind,hrun,Result.andThen_ok,Sem.run_pure];rfl,⟨zbh _ _,r3,r4⟩,?_⟩
    cases r2 with
    | one r2 =>
      obtain ⟨q1,q2⟩:=r2
      obtain ⟨n',xs,q3,q4⟩:=r1.st.obj 0 (.tok ti.elem e.size) rfl
      rw [zaq] at q3 q4
      refine ⟨q1,n',xs,zeL q3 fun g hg=>?_,fun g hg=>(q4 g hg).2⟩
      simp only [Value.ownBlock,Option.some.injEq] at hg
      omega
  | _=>simp [tagOf] at h10
theorem D_bs (hT:Good X) {n:Nat} {t:TypeId} {ps:Array (Nat × Operand)} {ti e:TyI} {rows:List (List D)} (hdst:o.dst=some d) (hd:Nat.blt d X.nt=true) (hw:wantA ops o (restr ops o fr)=some true) (ho:o.op=.buildSlice t n ps) (hi:X.Ty t=some ti) (htt:ti.tag=2) (he:X.Ty ti.elem=some e)
    (hr:layR e.size (restr ops o fr) 0 ps.toList=some rows) (hn:n=rows.length) (hb:n * e.size≤16777216) (hm:MenOk o K (.one (.own d rows))) (hf:FreeF d fr) (hs:FreeS d σB) (ht:FreeS d τ0) (h:DSeq X ops τ0 σB QD (i+1) (⟨d,i,.tok ti.elem e.size⟩ :: K) C rest ((d,.one (.own d rows)) :: fr)):DSeq X ops τ0 σB QD i K C (o :: rest) fr :=
  D_mk hdst hd hw hm hf hs ht (fun γ T S w a hrr=>by
    obtain ⟨v,w',S',h1,h2⟩:=zo7 hT ho hi htt he hr hn hb hrr
    exact .inl ⟨v,w',h1,S',h2⟩) h
theorem D_a (hT:Good X) {s xx:Operand} {t e:TypeId} {k sz:Nat} {ti ie:TyI} {rows news:List (List D)} (hdst:o.dst=some d) (hd:Nat.blt d X.nt=true) (hw:wantA ops o (restr ops o fr)=some true) (ho:o.op=.call { callee:=.builtin .append,args := #[s,xx],argTypes := #[t,t] })
    (hs:ev (restr ops o fr) s=some (.one (.own k rows))) (hx:(ev (restr ops o fr) xx).bind rowsV=some news) (hi:X.Ty t=some ti) (hit:ti.tag=2) (hie:ti.elem=e) (he:X.Ty e=some ie) (hsz:ie.size=sz) (h1:sized sz rows=true) (h2:sized sz news=true) (hbd:(rows.length+news.length) * ie.bytes≤140737488355328)
    (hkC:hasC C k=false) (hkB:look σB k=none) (hsrc:(k,Ob.tok e sz)∈τ0∨ ∃ c∈K,c.d=k∧c.ob=.tok e sz∧onO o c.i=true)
    (hm:MenOk o K (.one (.own d (rows++news)))) (hf:FreeF d fr) (hsB:FreeS d σB) (ht:FreeS d τ0) (h:DSeq X ops τ0 σB QD (i+1) (⟨d,i,.tok e sz⟩ :: K) ((k,none) :: C) rest ((d,.one (.own d (rows++news))) :: fr)):DSeq X ops τ0 σB QD i K C (o :: rest) fr :=
  ⟨.one (.own d (rows++news)),.app k e sz,⟨by rw [hdst];exact hd,hm,⟨hw,d,_,hdst,rfl,fun γ T S w a hr=>by
      have hv:=zae hr hs
      cases hv with
      | one hv =>
        obtain ⟨xv,hx1,hx2⟩:=Option.bind_eq_some_iff.1 hx
        obtain ⟨v',w',S',r1,r2⟩:=zdc (ty:=o.type) hT hr (by simp [look]) hv (zaR hx2 (zae hr hx1)) hi hit hie he hsz h1 h2 hbd
        exact .inl ⟨v',w',zbA ho r1,S',r2⟩⟩,fun d' h' _=>by
    rw [hdst] at h';injection h' with h';subst h';exact ⟨hf,hsB,fun p hp=>ht p hp⟩,fun k' e' sz' h'=>by
    injection h' with e1 e2 e3;subst e1;subst e2;subst e3
    exact ⟨hkC,hkB,hsrc⟩,fun k ob ob' h=>by cases h⟩,by rw [hdst];exact h⟩
theorem D_a0 (hT:Good X) {s xx:Operand} {t e:TypeId} {sz:Nat} {ti ie:TyI} {y:Value} {news:List (List D)} (hdst:o.dst=some d) (hd:Nat.blt d X.nt=true) (hw:wantA ops o (restr ops o fr)=some true) (ho:o.op=.call { callee:=.builtin .append,args := #[s,xx],argTypes := #[t,t] })
    (hs:ev (restr ops o fr) s=some (.one (.d (.v y)))) (hy:isNil y=true) (hx:(ev (restr ops o fr) xx).bind rowsV=some news) (hi:X.Ty t=some ti) (hit:ti.tag=2) (hie:ti.elem=e) (he:X.Ty e=some ie) (hsz:ie.size=sz) (h2:sized sz news=true) (hbd:news.length * ie.bytes≤140737488355328)
    (hm:MenOk o K (.one (.own d news))) (hf:FreeF d fr) (hsB:FreeS d σB) (ht:FreeS d τ0) (h:DSeq X ops τ0 σB QD (i+1) (⟨d,i,.tok e sz⟩ :: K) C rest ((d,.one (.own d news)) :: fr)):DSeq X ops τ0 σB QD i K C (o :: rest) fr :=
  D_mk hdst hd hw hm hf hsB ht (fun γ T S w a hr=>by
    have hv:=zaw (zae hr hs)
    rw [zb5 hy] at hv
    obtain ⟨xv,hx1,hx2⟩:=Option.bind_eq_some_iff.1 hx
    have hr0:=hr.nil_ 0 e sz
    obtain ⟨v',w',S',r1,r2,r3,r4,r5,r6,r7,r8,r9⟩:=zdc (ty:=o.type) (rows:=[]) hT hr0 (by simp [look]) (v:=.slice none 0 0) ⟨RD.nil_,zaq _ _ _⟩ (zaR hx2 (zae hr hx1)) hi hit hie he hsz rfl h2 (by simpa using hbd)
    rw [zaq] at r3 r5
    have hnew:∀ g,v'.ownBlock=some g→w.heap.size≤g:=fun g hg=>(r5 g hg).resolve_left (fun h=>by simp [Value.ownBlock] at h)
    rw [← hv] at r1
    obtain ⟨xs',r2⟩:=r2
    simp only [List.nil_append] at r2 r8 r9
    refine .inl ⟨v',w',zbA ho r1,S',⟨⟨r3.os,r3.tape,r3.output,r3.size,fun b hb=>r3.block b hb (by simp [Value.ownBlock])⟩,r6,fun b o hs=>(r7 b o hs).imp id fun h=>⟨hnew b h.1,h.2⟩⟩,r9,_,xs',zeL r2 hnew,r8⟩) h
end
end Go.Proofs.YtiplihojmfbjkaaGreat
