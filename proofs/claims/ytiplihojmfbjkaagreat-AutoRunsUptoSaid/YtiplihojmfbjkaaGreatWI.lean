/- Patterns as cells. -/
import Derived.Test.YtiplihojmfbjkaaGreatWY
import Derived.Test.YtiplihojmfbjkaaGreatN0
import Derived.Test.YtiplihojmfbjkaaGreatWG
import Derived.Sort.OwnSorted
namespace Go.Proofs.YtiplihojmfbjkaaGreat
open Go.RowKit
mutual
def encP:Pt→List D
  | ⟨k,v,d,l,w,mn,mx,ks⟩=>[.v (.int .i64 k),.v (.string v),.v (.int .i64 d),.v (.int .i64 l.kind),.v (.string l.name),.v (.int .i64 l.val.kind),.v (.int .i64 l.val.n),.v (.float .f64 l.val.f),.v (.string l.val.s),.sl (l.kids.map encE),
      .v (.int .i64 w.kind),.v (.string w.name),.v (.int .i64 w.val.kind),.v (.int .i64 w.val.n),.v (.float .f64 w.val.f),.v (.string w.val.s),.sl (w.kids.map encE),.v (.int .i64 mn),.v (.int .i64 mx),.sl (encPs ks)]
def encPs:List Pt→List (List D)
  | []=>[]
  | p :: l=>encP p :: encPs l
end
theorem zlC (l:List Pt):encPs l=l.map encP:=by
  induction l with
  | nil=>rfl
  | cons e l ih=>rw [encPs,ih,List.map_cons]
theorem zaM (p:Pt):encP p=[.v (.int .i64 p.kind),.v (.string p.var),.v (.int .i64 p.dir),.v (.int .i64 p.label.kind),.v (.string p.label.name),.v (.int .i64 p.label.val.kind),.v (.int .i64 p.label.val.n),.v (.float .f64 p.label.val.f),.v (.string p.label.val.s),.sl (p.label.kids.map encE),
      .v (.int .i64 p.wher.kind),.v (.string p.wher.name),.v (.int .i64 p.wher.val.kind),.v (.int .i64 p.wher.val.n),.v (.float .f64 p.wher.val.f),.v (.string p.wher.val.s),.sl (p.wher.kids.map encE),.v (.int .i64 p.min),.v (.int .i64 p.max),.sl (p.kids.map encP)]:=by
  cases p with|mk k v d l w mn mx ks=>rw [encP,zlC]
theorem zan (p:Pt):(encP p).length=20:=by rw [zaM];rfl
theorem zaU (l:List Pt):sized 20 (l.map encP)=true:=by
  simp [sized,zan]
theorem zc4 {i:TyI} (p:Pt) (ha:i.agg=true:=by rfl) (hs:i.size=7:=by rfl):loadA i (encP p) 3=some (.dat (encE p.label)):=by
  rw [zaM,zbw];unfold loadA;rw [if_pos ha,hs];rfl
theorem zdz {i:TyI} (p:Pt) (ha:i.agg=true:=by rfl) (hs:i.size=7:=by rfl):loadA i (encP p) 10=some (.dat (encE p.wher)):=by
  rw [zaM,zbw];unfold loadA;rw [if_pos ha,hs];rfl
theorem zcV {i:TyI} (p:Pt) (ha:i.agg=true:=by rfl) (hs:i.size=7:=by rfl):loadA i ((encP p).drop 3) 0=some (.dat (encE p.label)):=by
  rw [zaM,zbw];unfold loadA;rw [if_pos ha,hs];rfl
theorem zdb {i:TyI} (p:Pt) (ha:i.agg=true:=by rfl) (hs:i.size=7:=by rfl):loadA i ((encP p).drop 10) 0=some (.dat (encE p.wher)):=by
  rw [zaM,zbw];unfold loadA;rw [if_pos ha,hs];rfl
theorem zlD {a b:List D} (h:a=b):VV.dat a=VV.dat b:=by rw [h]
end Go.Proofs.YtiplihojmfbjkaaGreat
namespace Go.Proofs.YtiplihojmfbjkaaGreat
open Go.RowKit
def gHas (σ:Obs):Obs→Prop
  | []=>True
  | (k,ob) :: l=>look σ k=some ob∧gHas σ l
theorem zcO (σ:Obs):gHas σ []:=trivial
theorem zcC {σ l:Obs} {k:Nat} {ob:Ob} (h:look σ k=some ob) (h2:gHas σ l):gHas σ ((k,ob) :: l):=⟨h,h2⟩
theorem ghasA {σ l:Obs} (h:gHas σ l:=by repeat (first|exact zcO _|refine zcC (by rfl) ?_)):gHas σ l:=h
theorem gHas.all {σ:Obs}:∀ {l:Obs},gHas σ l→ ∀ p∈l,look σ p.1=some p.2
  | [],_,p,hp=>by cases hp
  | (k,ob) :: l,h,p,hp=>by
    rcases List.mem_cons.1 hp with hp|hp
    · subst hp;exact h.1
    · exact gHas.all h.2 p hp
section
variable {w0:W0} {S0:Nat→Nat→Prop} {nt:Nat} {fr fr1:Fr} {σ σ1 σ2:Obs} {o:Oper} {ops:Array Oper} {rest:List Oper} {Q:Fr→Obs→Prop} {d k j sz:Nat} {e:TypeId} {l0 l1:Cells} {y:VV} {xx:Operand}
theorem zfj {X:Ctx} {rs:List ResultVar} {x:VV} (h1:(retV X fr σ rs).bind dataV=some y) (h2:y=x) (h3:gHas σ (gO j e sz l1)):EndG X rs j e sz x l1 .ret fr σ:=by
  subst h2;exact ⟨h1,h3.all⟩
theorem uG {f:FuncId} {xs:Array Operand} {ats:Array TypeId} {args cs all:List VV} (hc:CallsG Tryz.prog f all j e sz l0 y l1) (h:RL (cx nt w0 S0) ops rest ((d,y) :: fr1) σ2 Q) (ho:o.op=.call { callee:=.value xx,args:=xs,argTypes:=ats }:=by rfl) (hx:calleeG fr xx=some (f,cs):=by rfl) (hw:wantA ops o fr=some true:=by rfl) (hdst:o.dst=some d:=by rfl) (hd:Nat.blt d nt=true:=by rfl)
    (ha:argsG fr xs.toList=some args:=by rfl) (hall:args++cs=all:=by rfl) (hσ:gHas σ (gO j e sz l0):=by (repeat (first|exact zcO _|refine zcC (by rfl) ?_))) (hj:inK l0 j=false:=by rfl) (hok:(l1.all fun p=>okC j l1 p.2.2)=true:=by rfl) (hk1:∀ k,inK l1 k=inK l0 k:=by exact fun _=>rfl) (hf:stripF j fr=fr1:=by exact strxA) (hs:stripS j σ=σ1:=by exact strxA) (hg:gO j e sz l1++σ1=σ2:=by first|((try simp only [gO,cellsO,List.map_cons,List.map_nil,List.cons_append,List.nil_append])<;>rfl)|rfl):RL (cx nt w0 S0) ops (o :: rest) fr σ Q :=
  zmv (X:=cx nt w0 S0) hw hdst hd ho hx ha (by rw [hall];exact hc) hσ.all hk1 hj hok (by rw [hf,hs,hg];exact h)
theorem uRn (k k':Nat) (hp:(cx nt w0 S0).pin k'=none) (h:RL (cx nt w0 S0) ops rest fr1 σ1 Q) (hf:renF k k' (stripF k' fr)=fr1:=by first|((try simp only [renF,renS,renV,renC,renO,rk,List.filter_cons,List.filter_nil,Bool.not_true,Bool.not_false,Nat.reduceBEq,List.map_cons,List.map_nil,za2,za9,zaN,zba,stripV,plainV,List.all_cons,List.all_nil,Bool.and_self,stripC,stripO,stripA,zaW,zaS,zbx,za8,Nat.reduceEqDiff,if_false,if_true,reduceIte,List.contains_nil,List.contains_cons,Nat.reduceBEq,Bool.or_false,Bool.false_eq_true,Bool.or_true])<;>rfl)|rfl) (hs:renS k k' (stripS k' σ)=σ1:=by first|((try simp only [renF,renS,renV,renC,renO,rk,List.filter_cons,List.filter_nil,Bool.not_true,Bool.not_false,Nat.reduceBEq,List.map_cons,List.map_nil,za2,za9,zaN,zba,stripV,plainV,List.all_cons,List.all_nil,Bool.and_self,stripC,stripO,stripA,zaW,zaS,zbx,za8,Nat.reduceEqDiff,if_false,if_true,reduceIte,List.contains_nil,List.contains_cons,Nat.reduceBEq,Bool.or_false,Bool.false_eq_true,Bool.or_true])<;>rfl)|rfl):RL (cx nt w0 S0) ops rest fr σ Q :=
  zpz k k' hp (by rw [hf,hs];exact h)
theorem zaH (h:w0.pin k=none):(cx nt w0 S0).pin k=none:=by
  show (if k < nt then none else w0.pin k)=none
  rw [h];exact ite_self _
end
end Go.Proofs.YtiplihojmfbjkaaGreat
namespace Go.Proofs.YtiplihojmfbjkaaGreat
open Go.RowKit Go.Sort
structure SortsG (P:Program) (f:FuncId):Prop where
  ent:Enters P f
  out:∀ (blk off cap:Nat) (ss:List (List UInt8)) (w:World),Holds encStr w blk off ss.toArray→blk < w.heap.size→ss.length < 4611686018427387904→
    Calls P f #[.slice (some ⟨blk,off,none⟩) ss.length cap] w fun e w'=>e=.returned (.tuple #[])∧ ∃ n os,w'=grow (putRow encStr (Sort.ahead w n) blk off (ss.mergeSort fun x y=>decide (x≤y)).toArray) os
  none:∀ (p:Option Addr) (cap:Nat) (w:World),Calls P f #[.slice p 0 cap] w fun e w'=>e=.returned (.tuple #[])∧w'=w
def bytesL (s:ByteArray):List UInt8:=s.data.toList
def sortB (l:List ByteArray):List ByteArray:=((l.map bytesL).mergeSort fun x y=>decide (x≤y)).map fun b=>⟨b.toArray⟩
theorem zc1 (l:List ByteArray):(sortB l).length=l.length:=by unfold sortB;simp
def scalarV:VV→Bool
  | .one (.d (.v _))=>true
  | .one (.po _ _)=>true
  | _=>false
section
variable {X:Ctx} {γ:Nat→Nat} {T:Nat→Value} {S S':Nat→Nat→Prop} {w w':World} {fr:Fr} {σ:Obs} {a:Act} {o:Oper} {ops:Array Oper} {rest:List Oper} {Q:Fr→Obs→Prop} {d:Nat}
theorem zkD {x:VV} (hx:scalarV x=true) {v:Value} (h:RV γ T S w x v):RV γ T S' w' x v:=by
  cases x with
  | one c =>
    cases h with
    | one h =>
      cases c with
      | d x=>cases x with
        | v y=>cases h with|v _ h=>exact .one (.v _ h)
        | sl r=>cases hx
        | pi r=>cases hx
        | fn f c=>cases hx
      | po k o=>exact .one h
      | mr k=>cases hx
      | que _ _ _ _=>cases hx
      | own k r=>cases hx
      | fn f c=>cases hx
      | win _ _ _ _ _=>cases hx
      | pe _ _ _ _=>cases hx
      | any=>cases hx
  | dat cs=>cases hx
  | tup l=>cases hx
  | ag cs=>cases hx
  | junk=>cases hx
def keepF:Fr→Fr
  | []=>[]
  | (k,x) :: fr=>(k,if scalarV x=true then x else .junk) :: keepF fr
theorem zgn:∀ {fr:Fr} {t:Nat} {y:VV},look (keepF fr) t=some y→ ∃ x,look fr t=some x∧((scalarV x=true∧y=x)∨y=.junk)
  | [],t,y,h=>by simp [keepF,look] at h
  | (k,x) :: fr,t,y,h=>by
    simp only [keepF,look] at h ⊢
    split at h
    · rename_i e
      rw [if_pos e]
      injection h with h
      refine ⟨x,rfl,?_⟩
      by_cases hx:scalarV x=true
      · rw [if_pos hx] at h;exact .inl ⟨hx,h.symm⟩
      · rw [if_neg hx] at h;exact .inr h.symm
    · rename_i e
      rw [if_neg e]
      exact zgn h
theorem zhT {l:List ByteArray} {v:Value} {e:TypeId} {n:Nat} {xs:List Value} (h:RD S w (.sl (l.map encS)) v) (ho:w.ownsRow 0 e 1 v n xs):n=l.length∧xs=(l.map bytesL).map encStr∧ ∀ g,v.ownBlock=some g→ ∀ o,o < l.length→S g o:=by
  have henc:(l.map bytesL).map encStr=l.map fun s=>Value.string s:=by
    rw [List.map_map];rfl
  cases h with
  | sl rows A c sz vs cap lim nil row val spot mem =>
    have hlen:(l.map encS).length=l.length:=List.length_map _
    rcases ho.2 with ⟨h1,h2⟩ | ⟨g,cap',cur,h1,_,hb,h3,h4,h5,h6⟩
    · injection h1 with h1 h1'
      rw [hlen] at h1'
      have hl0:l=[]:=List.length_eq_zero_iff.1 h1'
      subst hl0
      have hx:xs=[]:=List.length_eq_zero_iff.1 (by rw [ho.1,h2])
      exact ⟨h2,hx,fun g _ o ho=>by simp at ho⟩
    · injection h1 with h1 h1'
      rw [hlen] at h1'
      subst h1'
      refine ⟨rfl,?_,fun g' hg' o hol=>?_⟩
      · rw [henc]
        have hxl:xs.length=l.length:=by rw [ho.1];omega
        apply List.ext_getElem?
        intro i
        by_cases hi:i < l.length
        · have hrow:(l.map encS)[i]?=some (encS l[i]):=by rw [List.getElem?_map,List.getElem?_eq_getElem hi];rfl
          have hsz:sz=1:=by have:=row i _ hrow;simpa [encS] using this.symm
          subst hsz
          have hv:=val i _ hrow 0 (.v (.string l[i])) rfl
          have hm:=(mem ⟨g,0,Option.none⟩ h1 i (by rw [hlen];exact hi) 0 (by omega)).2
          have hvv:vs i 0=.string l[i]:=by
            generalize vs i 0=u at hv
            cases hv;rfl
          rw [hvv] at hm
          have hcell:cur[i]?=some (.string l[i]):=by
            have:w.cell? ⟨g,i,Option.none⟩=some (.string l[i]):=by simpa using hm
            simpa [World.cell?,hb] using this
          rw [← h6,List.getElem?_take_of_lt (by omega),Array.getElem?_toList,hcell,List.getElem?_map,List.getElem?_eq_getElem hi];rfl
        · rw [List.getElem?_eq_none (by omega),List.getElem?_eq_none (by simp;omega)]
      · have hrow:(l.map encS)[o]?=some (encS l[o]):=by rw [List.getElem?_map,List.getElem?_eq_getElem hol];rfl
        have hsz:sz=1:=by have:=row o _ hrow;simpa [encS] using this.symm
        subst hsz
        have hg2:g'=g:=by
          rw [h1] at hg'
          simpa [Value.ownBlock] using hg'.symm
        subst hg2
        have hm:=(mem ⟨g',0,Option.none⟩ h1 o (by rw [hlen];exact hol) 0 (by omega)).1
        simpa using hm
theorem zlX (l:List ByteArray):((l.map bytesL).mergeSort fun x y=>decide (x≤y)).map encStr=(sortB l).map fun s=>Value.string s:=by
  unfold sortB;rw [List.map_map];rfl
theorem zpe {S2:Nat→Nat→Prop} {l:List ByteArray} {g cap:Nat} {e:TypeId} (h:w'.ownsRow 0 e 1 (.slice (some ⟨g,0,Option.none⟩) l.length cap) l.length (l.map fun s=>Value.string s)) (hS:∀ o,o < l.length→S2 g o) (hlim:l.length≤281474976710656):RD S2 w' (.sl (l.map encS)) (.slice (some ⟨g,0,Option.none⟩) l.length cap):=by
  rcases h.2 with ⟨h1,_⟩ | ⟨g',cap',cur,h1,_,hb,h3,h4,h5,h6⟩
  · cases h1
  · injection h1 with h1 _ h1'
    injection h1 with h1
    injection h1 with h1
    subst h1;subst h1'
    have hlen:(l.map encS).length=l.length:=List.length_map _
    have:=RD.sl (S:=S2) (w:=w') (l.map encS) (some ⟨g,0,Option.none⟩) cap 1 (fun i _=>(l[i]?.map Value.string).getD undef) (by rw [hlen];exact h3) (by rw [hlen];exact hlim) (fun h=>by cases h)
      (fun i q hq=>by
        rw [List.getElem?_map,Option.map_eq_some_iff] at hq
        obtain ⟨s,_,rfl⟩:=hq;rfl)
      (fun i q hq j x hx=>by
        rw [List.getElem?_map,Option.map_eq_some_iff] at hq
        obtain ⟨s,hs,rfl⟩:=hq
        match j,hx with
        | 0,hx =>
          simp only [encS,List.getElem?_cons_zero,Option.some.injEq] at hx
          subst hx
          simp only [hs,Option.map_some,Option.getD_some]
          exact .v _ rfl)
      (fun a ha _=>by injection ha with ha;subst ha;rfl)
      (fun a ha i hi j hj=>by
        injection ha with ha;subst ha
        rw [hlen] at hi
        obtain rfl:j=0:=by omega
        refine ⟨by simpa using hS i hi,?_⟩
        have hc:cur[i]?=some (Value.string l[i]):=by
          have h7:(cur.toList.take (l.length * 1))[i]?=(l.map fun s=>Value.string s)[i]?:=by rw [h6]
          rw [List.getElem?_take_of_lt (by omega),Array.getElem?_toList,List.getElem?_map,List.getElem?_eq_getElem hi] at h7
          exact h7
        simp [World.cell?,hb,hc,List.getElem?_eq_getElem hi])
    rwa [hlen] at this
theorem zn8 {f:FuncId} {x:Operand} {xs:Array Operand} {ats:Array TypeId} {j k:Nat} {e ty:TypeId} {l:List ByteArray} (hw:wantA ops o fr=some true) (hdst:o.dst=some d) (hd:Nat.blt d X.nt=true) (ho:o.op=.call { callee:=.value (.func f),args:=xs,argTypes:=ats }) (hxs:xs.toList=[x])
    (hx:ev fr x=some (.one (.own j (l.map encS)))) (hj:look σ j=some (.tok e 1)) (hk:look σ k=some (.cell ty (.own j (l.map encS)))) (hkj:k≠j) (hS0:∀ b o,X.S0 b o→X.N b) (hl:l.length≤1000000) (hc:SortsG X.P f)
    (h:RL X ops rest ((d,.tup []) :: keepF fr) [(k,.cell ty (.own j ((sortB l).map encS))),(j,.tok e 1)] Q):RL X ops (o :: rest) fr σ Q :=
  ⟨fun γ T S w a K hr hkk=>wpList_step fun K' hK=>by
    rw [if_pos (zam hr hw)]
    unfold Oper.wp
    obtain ⟨n,ys,hown,hfree⟩:=hr.st.obj j _ hj
    obtain ⟨u,hu1,hu2,hu3,hu4,hu5,hu6⟩:=hr.st.obj k _ hk
    have hxv:a.eval x=T j:=by
      have:=zae hr hx
      cases this with|one h=>exact h.2.symm
    obtain ⟨hrd,hTu⟩:=hu2
    have hTj:T j=u:=hTu
    rw [hTj] at hown hfree hxv
    obtain ⟨hn,hys,hSg⟩:=zhT hrd hown
    subst hn;subst hys
    -- the worlds that may come of it
    have key:∀ w',w.grownBy w' u.ownBlock→(w'.ownsRow 0 e 1 u l.length ((sortB l).map fun s=>Value.string s))→Rel X γ T (fun b o=>X.S0 b o∨(u.ownBlock=some b∧o < l.length)) w' (keepF fr) [(k,.cell ty (.own j ((sortB l).map encS))),(j,.tok e 1)] a:=by
      intro w' hg hown'
      have hgk:u.ownBlock≠some (γ k):=fun e2=>hr.st.dis k j _ _ hk hj hkj (γ k) rfl (by simpa only [fp,hTj] using e2)
      have hklt:γ k < w.heap.size:=za0 hu1
      have hRD:RD (fun b o=>X.S0 b o∨(u.ownBlock=some b∧o < l.length)) w' (.sl ((sortB l).map encS)) u:=by
        rcases hown'.2 with ⟨h1,h2⟩ | ⟨g,cap,cur,h1,_,_⟩
        · have:sortB l=[]:=List.length_eq_zero_iff.1 (by rw [zc1,h2])
          rw [this,h1];exact RD.nil_
        · rw [h1] at hown' ⊢
          rw [← zc1 l] at hown' ⊢
          exact zpe hown' (fun o ho=>.inr ⟨rfl,ho⟩) (by rw [zc1];omega)
      refine ⟨⟨⟨hg.os.trans hr.st.keep.os,hg.tape.trans hr.st.keep.tape,hg.output.trans hr.st.keep.output,Nat.le_trans hr.st.keep.size hg.size,fun b hb hlt=>?_⟩,fun b i hs=>?_,hr.st.nlt,fun b i hs=>?_,⟨fun b i hs=>.inl hs,fun b i y hs hc2=>?_⟩,fun i ob hi=>?_,fun i i' ob ob' hi hi' hne b hb=>?_⟩,fun t y hy=>?_,hr.nt,hr.df⟩
      · have h1:=hr.st.nlt b hb
        have h2:=hr.st.keep.size
        exact (hg.block b (by omega) fun e2=>(hfree b e2.symm).1 hb).trans (hr.st.keep.block b hb hlt)
      · rcases hs with hs | ⟨hs,_⟩
        · exact Nat.lt_of_lt_of_le (hr.st.lt b i (hr.st.mon.1 b i hs)) hg.size
        · exact Nat.lt_of_lt_of_le (hown.lt b hs).2 hg.size
      · exact hs.imp id fun hs=>(hfree b hs.1).1
      · have h1:=hr.st.mon.2 b i y hs hc2
        have h2:=hr.st.lt b i (hr.st.mon.1 b i hs)
        rw [World.cell?_of_block (hg.block b h2 fun e2=>(hfree b e2.symm).1 (hS0 b i hs))]
        exact h1
      · simp only [look] at hi
        split at hi
        · rename_i e2
          injection hi with hi;subst hi;subst e2
          refine ⟨u,(hg.block _ hklt fun e2=>hgk e2.symm).trans hu1,⟨hRD,hTj⟩,hu3,fun i hs=>?_,hu5,hu6⟩
          rcases hs with hs | ⟨hs,_⟩
          · exact hu5 (hS0 _ _ hs)
          · exact hgk hs
        · split at hi
          · rename_i e2
            injection hi with hi;subst hi;subst e2
            refine ⟨l.length,_,by rw [hTj];exact hown',fun g hg2=>?_⟩
            rw [hTj] at hg2
            refine ⟨(hfree g hg2).1,fun i hs=>?_⟩
            rcases hs with hs | ⟨_,hs⟩
            · exact absurd (hS0 _ _ hs) (hfree g hg2).1
            · omega
          · cases hi
      · have hold:∀ i ob,look [(k,Ob.cell ty (.own j ((sortB l).map encS))),(j,Ob.tok e 1)] i=some ob→ ∃ ob0,look σ i=some ob0∧ ∀ b,fp γ T i ob b→fp γ T i ob0 b:=fun i ob hi=>by
          simp only [look] at hi
          split at hi
          · rename_i e2;injection hi with hi;subst hi;subst e2;exact ⟨_,hk,fun _ h=>h⟩
          · split at hi
            · rename_i e2;injection hi with hi;subst hi;subst e2;exact ⟨_,hj,fun _ h=>h⟩
            · cases hi
        obtain ⟨ob0,g1,g2⟩:=hold i ob hi
        obtain ⟨ob0',g1',g2'⟩:=hold i' ob' hi'
        exact fun hb'=>hr.st.dis i i' ob0 ob0' g1 g1' hne b (g2 b hb) (g2' b hb')
      · obtain ⟨x0,h1,h2⟩:=zgn hy
        rcases h2 with ⟨h3,rfl⟩|rfl
        · exact zkD h3 (hr.fr t _ h1)
        · exact .junk _
    have fin:∀ w',w.grownBy w' u.ownBlock→(w'.ownsRow 0 e 1 u l.length ((sortB l).map fun s=>Value.string s))→K' (a.put o.dst (.tuple #[])) w':=fun w' h1 h2=>by
      refine hK _ _ (h.out γ T (fun b o=>X.S0 b o∨(u.ownBlock=some b∧o < l.length)) w' _ K ?_ hkk)
      rw [hdst]
      exact (key w' h1 h2).put (dst:=some d) hd (.tup [] #[].toList rfl fun j x u hx=>by simp at hx)
    have hargs:(xs.toList.map a.eval).toArray = #[u]:=by rw [hxs,List.map_singleton,hxv]
    rw [zbs ho,hargs,hc.ent]
    rcases hown.2 with ⟨h1,h2⟩ | ⟨g,cap,cur,h1,_,hb,h3,h4,h5,h6⟩
    · have hl0:l=[]:=List.length_eq_zero_iff.1 h2
      rw [h1]
      refine (hc.none Option.none 0 w).mono fun ex w' he=>?_
      obtain ⟨rfl,rfl⟩:=he
      refine fin w' ⟨rfl,rfl,rfl,Nat.le_refl _,fun _ _ _=>rfl⟩ ?_
      subst hl0
      rw [show sortB []=[] from List.length_eq_zero_iff.1 (zc1 [])]
      exact hown
    · have hsl:(l.map bytesL).length=l.length:=List.length_map _
      have hH:Holds encStr w g 0 (l.map bytesL).toArray:=holds_of_block hb (by rw [hsl,← h6,Nat.mul_one])
      have hglt:g < w.heap.size:=za0 hb
      have:=hc.out g 0 cap (l.map bytesL) w hH hglt (by rw [hsl];omega)
      rw [hsl,← h1] at this
      refine this.mono fun ex w' he=>?_
      obtain ⟨rfl,n,os,rfl⟩:=he
      have hob:u.ownBlock=some g:=by rw [h1];rfl
      refine fin _ (by rw [hob];exact grownBy_sorted _) ?_
      have h7:=ownsRow_sorted (w:=w) (base:=0) (g:=g) (cap:=cap) (n:=n) (e:=e) (os:=os) (cur:=cur) (ss:=l.map bytesL) (ts:=(l.map bytesL).mergeSort fun x y=>decide (x≤y)) (by simp) (Nat.zero_le _) hb (by rw [hsl];exact h3) h4 h5
      rw [hsl,← h1,zlX] at h7
      exact h7⟩
theorem zoF (k j:Nat) (e:TypeId) (sz:Nat) {ty:TypeId} {x:Value} (hk:look σ k=some (.cell ty (.d (.v x)))) (hx:isNil x=true) (hkj:k≠j) (h:RL X ops rest (stripF j fr) ((k,.cell ty (.own j [])) :: (j,.tok e sz) :: stripS j σ) Q):RL X ops rest fr σ Q :=
  ⟨fun γ T S w a K hr hkk=>by
    refine h.out γ (setK T j (.slice Option.none 0 0)) S w a K ?_ hkk
    obtain ⟨u,hu1,hu2,hu3,hu4,hu5,hu6⟩:=hr.st.obj k _ hk
    have hu:u=.slice Option.none 0 0:=by
      cases hu2 with|v _ _=>exact zb5 hx
    obtain ⟨⟨keep,lt,nlt,set,mon,obj,dis⟩,hfr,hn,hd⟩:=hr.nil_ j e sz
    have hold:look ((j,Ob.tok e sz) :: stripS j σ) k=some (.cell ty (.d (.v x))):=by
      simp only [look]
      rw [if_neg (Ne.symm hkj),zar,hk,Option.map_some,if_neg hkj];rfl
    refine ⟨⟨keep,lt,nlt,set,mon,fun i ob hi=>?_,fun i i' ob ob' hi hi' hne b hb=>?_⟩,hfr,hn,hd⟩
    · rw [zap] at hi
      split at hi
      · rename_i e2
        injection hi with hi;subst hi;subst e2
        exact ⟨u,hu1,⟨by rw [hu];exact RD.nil_,by rw [zaq,hu]⟩,hu3,hu4,hu5,hu6⟩
      · exact obj i ob hi
    · have hm:∀ i ob,look ((k,Ob.cell ty (.own j [])) :: (j,Ob.tok e sz) :: stripS j σ) i=some ob→ ∃ ob0,look ((j,Ob.tok e sz) :: stripS j σ) i=some ob0∧ ∀ b,fp γ (setK T j (.slice Option.none 0 0)) i ob b→fp γ (setK T j (.slice Option.none 0 0)) i ob0 b:=fun i ob hi=>by
        rw [zap] at hi
        split at hi
        · rename_i e2;injection hi with hi;subst hi;subst e2;exact ⟨_,hold,fun _ h=>h⟩
        · exact ⟨ob,hi,fun _ h=>h⟩
      obtain ⟨ob0,g1,g2⟩:=hm i ob hi
      obtain ⟨ob0',g1',g2'⟩:=hm i' ob' hi'
      exact fun hb'=>dis i i' ob0 ob0' g1 g1' hne b (g2 b hb) (g2' b hb')⟩
end
section
variable {X:Ctx} {γ:Nat→Nat} {T:Nat→Value} {S:Nat→Nat→Prop} {w:World} {fr:Fr} {σ:Obs}
theorem zbj {P:Program} {Ty:TypeId→Option TyI} {f:FuncId} {fn:Func} {c:Code} {args:List VV} {res:Res} (hT:∀ t i,Ty t=some i→TyOK P t i)
    (hf : P.funcs[f]? = some fn) (hname : (fn.name == "runtime.NumGoroutine") = false) (hb : fn.body = some c) (hn : Nat.ble args.length fn.ntmps = true)
    (h:∀ (w0:W0) (S0:Nat→Nat→Prop),(∀ b o,S0 b o→w0.N b)→(∀ k,w0.pin k=none)→W (ctx P Ty fn.ntmps w0 S0) c (argsF args) [] (EndQ (ctx P Ty fn.ntmps w0 S0) fn.results.toList res)):CallsV P f args res:=by
  have hent:Enters P f:=fun xs w=>by
    have h1 : fn.name ≠ "runtime.NumGoroutine" := by simpa using hname
    simp [callFunc,hf,h1,hb]
  refine ⟨hent,fun S w vs ha lt=>calls_of_wp hf hb ?_⟩
  have hle:vs.length≤fn.ntmps:=by rw [ha.1];exact Nat.le_of_ble_eq_true hn
  have hr:Rel (ctx P Ty fn.ntmps (.of w) S) (fun _=>0) (fun _=>undef) S w (argsF args) [] { tmps:=vs.toArray++Array.replicate (fn.ntmps - vs.toArray.size) undef,defers:=[] }:=by
    refine ⟨⟨.refl _ _,lt,fun b hb=>hb,fun b o hs=>.inl hs,⟨fun _ _ hs=>hs,fun _ _ _ _ h=>h⟩,fun k o ho=>by simp [look] at ho,fun k k' o o' ho=>by simp [look] at ho⟩,fun t x hx=>?_,by simp [ctx];omega,rfl⟩
    obtain ⟨_,h2⟩:=zbJ args 0 t x hx
    rw [Nat.sub_zero] at h2
    have hlt:t < vs.length:=by rw [ha.1];exact (List.getElem?_eq_some_iff.1 h2).1
    have hv:vs[t]?=some vs[t]:=List.getElem?_eq_getElem hlt
    have e:(vs.toArray++Array.replicate (fn.ntmps - vs.toArray.size) undef).getD t undef=vs[t]:=by
      rw [Array.getD_eq_getD_getElem?,Array.getElem?_append_left (by simpa using hlt)]
      simp [hv]
    rw [e]
    exact ha.2 t x _ h2 hv _ _
  refine Code.wp_mono (fun e a' w' hq=>?_) ((h (.of w) S (fun b o hs=>lt b o hs) (fun _=>rfl)).out _ _ _ _ _ hr)
  obtain ⟨γ,T,S',fr,σ,hr',hq⟩:=hq
  have hbel:Below w.heap.size w w':=⟨hr'.st.keep.os,hr'.st.keep.tape,hr'.st.keep.output,hr'.st.keep.size,fun k hk=>hr'.st.keep.block k hk hk⟩
  have hnew:∀ b o,S' b o→S b o∨(w.heap.size≤b∧b < w'.heap.size):=fun b o hs=>(hr'.st.set b o hs).imp id fun hnN=>⟨Nat.le_of_not_lt hnN,hr'.st.lt b o hs⟩
  have hfin:RetOK (ctx P Ty fn.ntmps (.of w) S) fn.results.toList res fr σ→ ∃ v,(results fn a'.tmps).run P w'=.ok v w'∧ ∃ v' S',Ending.returned v=.returned v'∧Below w.heap.size w w'∧(∀ b o,S b o→S' b o)∧(∀ b o,S' b o→S b o∨(w.heap.size≤b∧b < w'.heap.size))∧ResR S' w w' v' res:=by
    intro hok
    cases res with
    | val y =>
      obtain ⟨x,hx1,hx2⟩:=Option.bind_eq_some_iff.1 hok
      obtain ⟨v,g1,g2⟩:=zcE (X:=ctx P Ty fn.ntmps (.of w) S) hT hr' hx1
      exact ⟨v,g1,v,S',rfl,hbel,hr'.st.mon.1,hnew,zcj hx2 g2⟩
    | own e sz rows =>
      obtain ⟨k,hx1,hx2⟩:=hok
      obtain ⟨v,g1,g2⟩:=zcE (X:=ctx P Ty fn.ntmps (.of w) S) hT hr' hx1
      cases g2 with
      | one g2 =>
        obtain ⟨n,xs,q1,q2⟩:=hr'.st.obj k _ hx2
        rw [g2.2] at q1 q2
        refine ⟨v,g1,v,S',rfl,hbel,hr'.st.mon.1,hnew,g2.1,n,xs,⟨q1.1,?_⟩,fun g hg=>(q2 g hg).2⟩
        rcases q1.2 with q3 | ⟨g,cap,cur,q3,_,q4⟩
        · exact .inl q3
        · exact .inr ⟨g,cap,cur,q3,Nat.le_of_not_lt (q2 g (by simp [q3,Value.ownBlock])).1,q4⟩
  cases e with
  | normal=>obtain ⟨v,g1,g2⟩:=hfin hq;exact ⟨hr'.df,v,g1,g2⟩
  | ret=>obtain ⟨v,g1,g2⟩:=hfin hq;exact ⟨hr'.df,v,g1,g2⟩
  | exit id=>exact hq.elim
  | goto l=>exact hq.elim
  | panic ch=>exact hq.elim
  | outgrown=>exact hq.elim
end
section
variable {w0:W0} {S0:Nat→Nat→Prop} {nt:Nat} {fr fr1:Fr} {σ σ1:Obs} {o:Oper} {ops:Array Oper} {rest:List Oper} {Q:Fr→Obs→Prop} {d:Nat}
theorem uNc (k j:Nat) (e:TypeId) (sz:Nat) {ty:TypeId} {x:Value} (h:RL (cx nt w0 S0) ops rest fr1 ((k,.cell ty (.own j [])) :: (j,.tok e sz) :: σ1) Q) (hk:look σ k=some (.cell ty (.d (.v x))):=by rfl) (hx:isNil x=true:=by rfl) (hkj:k≠j:=by decide) (hf:stripF j fr=fr1:=by exact strxA) (hs:stripS j σ=σ1:=by exact strxA):RL (cx nt w0 S0) ops rest fr σ Q :=
  zoF k j e sz hk hx hkj (hf ▸ hs ▸ h)
theorem uSt (j k:Nat) {f:FuncId} {x:Operand} {xs:Array Operand} {ats:Array TypeId} {e ty:TypeId} (l:List ByteArray) (hc:SortsG Tryz.prog f) (hS0:∀ b o,S0 b o→w0.N b) (hl:l.length≤1000000) (h:RL (cx nt w0 S0) ops rest ((d,.tup []) :: keepF fr) [(k,.cell ty (.own j ((sortB l).map encS))),(j,.tok e 1)] Q) (ho:o.op=.call { callee:=.value (.func f),args:=xs,argTypes:=ats }:=by rfl) (hxs:xs.toList=[x]:=by rfl) (hw:wantA ops o fr=some true:=by rfl) (hdst:o.dst=some d:=by rfl) (hd:Nat.blt d nt=true:=by rfl)
    (hx:ev fr x=some (.one (.own j (l.map encS))):=by rfl) (hj:look σ j=some (.tok e 1):=by rfl) (hk:look σ k=some (.cell ty (.own j (l.map encS))):=by rfl) (hkj:k≠j:=by decide):RL (cx nt w0 S0) ops (o :: rest) fr σ Q :=
  zn8 (X:=cx nt w0 S0) hw hdst hd ho hxs hx hj hk hkj hS0 hl hc h
end
end Go.Proofs.YtiplihojmfbjkaaGreat
