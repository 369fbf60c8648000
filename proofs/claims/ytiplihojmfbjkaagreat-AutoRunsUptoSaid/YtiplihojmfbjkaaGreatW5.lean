/- The other operations,one by one. -/
import Derived.Test.YtiplihojmfbjkaaGreatW3
namespace Go.Proofs.YtiplihojmfbjkaaGreat
open Go.RowKit
section
variable {X:Ctx} {γ γ':Nat→Nat} {T T':Nat→Value} {S S':Nat→Nat→Prop} {w w':World} {fr:Fr} {σ:Obs} {a:Act} {o:Oper}
theorem zf8 {x:Operand} {r:Out} (ho:o.op=.move x) (h:aop X o fr σ=some r):PureS X o fr σ r:=by
  unfold aop at h
  simp only [ho,Option.map_eq_some_iff] at h
  obtain ⟨v,hv,rfl⟩:=h
  exact zaA fun γ T S w a hr=>⟨_,by simp only [execOp,ho,Sem.run_pure],zae hr hv⟩
theorem zeJ {x:Operand} {r:Out} (ho:o.op=.assign x) (h:aop X o fr σ=some r):PureS X o fr σ r:=by
  unfold aop at h
  simp only [ho,Option.map_eq_some_iff] at h
  obtain ⟨v,hv,rfl⟩:=h
  exact zaA fun γ T S w a hr=>⟨_,by simp only [execOp,ho,Sem.run_pure],zae hr hv⟩
theorem zgc {c x y:Operand} {r:Out} (ho:o.op=.pick c x y) (h:aop X o fr σ=some r):PureS X o fr σ r:=by
  unfold aop at h
  simp only [ho] at h
  split at h
  · rename_i hc
    simp only [Option.map_eq_some_iff] at h
    obtain ⟨v,hv,rfl⟩:=h
    refine zaA fun γ T S w a hr=>⟨_,?_,zae hr hv⟩
    have e:=zaw (zae hr hc)
    simp only [execOp,ho,e,asBool,Sem.run_bind,Sem.run_pure,Result.andThen_ok,if_true]
  · rename_i hc
    simp only [Option.map_eq_some_iff] at h
    obtain ⟨v,hv,rfl⟩:=h
    refine zaA fun γ T S w a hr=>⟨_,?_,zae hr hv⟩
    have e:=zaw (zae hr hc)
    simp only [execOp,ho,e,asBool,Sem.run_bind,Sem.run_pure,Result.andThen_ok,Bool.false_eq_true,if_false]
  · cases h
theorem za6 (h:Rel X γ T S w fr σ a) (b:Nat) (hb:w.heap.size≤b):(∀ o,¬ S b o)∧¬ X.N b :=
  ⟨fun o hs=>by have:=h.st.lt b o hs;omega,fun hN=>by have:=h.st.nlt b hN;have:=h.st.keep.size;omega⟩
theorem Rel.alloc_box (k:Nat) (h:Rel X γ T S w fr σ a) (us:List Value) (ty:TypeId) {cs:List D} (hr:RDL S w cs us) :
    Rel X (setK γ k w.heap.size) T S (w.alloc (.cells us.toArray ty)) (stripF k fr) ((k,.box ty cs) :: stripS k σ) a :=
  h.alloc k us ty (.box ty cs) (fun γ' _ hg=>⟨us,by rw [hg];exact heap_alloc_new w _,hr.mono (fun _ _ hs=>hs) (.of_below h.st.lt (zbh _ _)),by rw [hg];exact za6 h _ (Nat.le_refl _)⟩) (fun _ _ hb=>hb)
theorem Rel.alloc_cell (k:Nat) (hlow:k < X.nt) (h:Rel X γ T S w fr σ a) (u:Value) (ty:TypeId) {c:C} (h1:u.oneCell'=true) (hr:∀ γ',(∀ j,j≠k→γ' j=γ j)→RC γ' T S w c u) :
    Rel X (setK γ k w.heap.size) T S (w.alloc (.cells #[u] ty)) (stripF k fr) ((k,.cell ty c) :: stripS k σ) a :=
  h.alloc k [u] ty (.cell ty c) (fun γ' hne hg=>⟨u,by rw [hg];exact heap_alloc_new w _,(hr γ' hne).mono (fun _ _ hs=>hs) (.of_below h.st.lt (zbh _ _)),h1,by rw [hg];exact (za6 h _ (Nat.le_refl _)).1,by rw [hg];exact (za6 h _ (Nat.le_refl _)).2,fun b hb=>(by rw [X.low k hlow] at hb;cases hb)⟩) (fun _ _ hb=>hb)
theorem zbO (P:Program) (w:World) (t:TypeId) (v:Value):(newVar t v).run P w=.ok ⟨w.heap.size,0,none⟩ (w.alloc (.cells v.cells t)):=by
  simp only [newVar,newRow,newObj,Sem.run_bind,Sem.run,Result.andThen_ok,Sem.run_pure];rfl
theorem zi2 (hT:∀ t i,X.Ty t=some i→TyOK X.P t i) {t:TypeId} {r:Out} (ho:o.op=.alloc t) (h:aop X o fr σ=some r):Sound X o fr σ r:=by
  unfold aop at h
  simp only [ho] at h
  split at h
  · rename_i k i hk hi
    split at h
    rotate_left
    · cases h
    rename_i hlow
    injection h with h;subst h
    have hok:=hT t i hi
    obtain ⟨inf,d,h1,h2,h3,h4,h5,h6,_⟩:=hok.get
    intro γ T S w a hr
    by_cases ha:i.agg=true
    · rw [if_pos ha] at h5
      simp only [newOb,if_pos ha]
      refine ⟨_,T,S,_,.pointer (some ⟨w.heap.size,0,none⟩),.inl ?_,hr.alloc_box k i.zero t (RDL.zcs hok.z1),.one (by simp only [RC,zaq])⟩
      simp only [execOp,ho,Instr.alloc,Sem.run_bind,zes h1 h5,Result.andThen_ok,zbO,Sem.run_pure,Value.cells]
    · rw [if_neg ha] at h5
      simp only [newOb,if_neg ha]
      have hne:i.zero≠[]:=fun e=>by have:=hok.pos;have:=hok.zlen;rw [e] at this;simp at this;omega
      have h1c:(i.zero.headD undef).oneCell'=true:=by
        cases hz:i.zero with
        | nil=>exact absurd hz hne
        | cons u us=>have:=hok.z1;rw [hz] at this;simp only [List.all_cons,Bool.and_eq_true] at this;exact this.1
      refine ⟨_,T,S,_,.pointer (some ⟨w.heap.size,0,none⟩),.inl ?_,hr.alloc_cell k (by rcases hlow with h|h;exact absurd h ha;exact (Nat.blt_eq ▸ h)) (i.zero.headD undef) t h1c (fun _ _=>.v _ h1c),.one (by simp only [RC,zaq])⟩
      simp only [execOp,ho,Instr.alloc,Sem.run_bind,zes h1 h5,Result.andThen_ok,zbO,Sem.run_pure,cells1v h1c]
  · cases h
theorem zfL (h:Rel X γ T S w fr σ a) {k:Nat} {x:Operand} {v:VV} (hv:ev (stripF k fr) x=some v) (hg:∀ j,j≠k→γ' j=γ j) (hT:∀ j,j≠k→T' j=T j):RV γ' T' S w v (a.eval x) :=
  zae (h.upd k hg hT) hv
theorem zmo {t:TypeId} {x:Operand} {r:Out} (ho:o.op=.box t x) (h:aop X o fr σ=some r):Sound X o fr σ r:=by
  unfold aop at h
  simp only [ho] at h
  split at h
  · rename_i k i hk hi
    split at h
    · rename_i cs _ hx
      split at h
      · injection h with h;subst h
        intro γ T S w a hr
        have hv:=zfL (γ':=γ) (T':=T) hr hx (fun _ _=>rfl) (fun _ _=>rfl)
        generalize he:a.eval x=v at hv
        cases hv with
        | @dat _ us hv =>
          refine ⟨_,T,S,_,.pointer (some ⟨w.heap.size,0,none⟩),.inl ?_,hr.alloc_box k us t hv,.one (by simp only [RC,zaq])⟩
          simp only [execOp,ho,he,Instr.box,Sem.run_bind,Result.andThen_ok,zbO,Sem.run_pure,Value.cells]
      · cases h
    · rename_i c _ hx
      split at h
      rotate_left
      · cases h
      rename_i hlow
      injection h with h;subst h
      intro γ T S w a hr
      have hv:=zfL (γ':=γ) (T':=T) hr hx (fun _ _=>rfl) (fun _ _=>rfl)
      generalize he:a.eval x=v at hv
      cases hv with
      | one hv =>
        refine ⟨_,T,S,_,.pointer (some ⟨w.heap.size,0,none⟩),.inl ?_,hr.alloc_cell k (Nat.blt_eq ▸ hlow) v t (RC.one hv) (fun γ' hg=>?_),.one (by simp only [RC,zaq])⟩
        · simp only [execOp,ho,he,Instr.box,Sem.run_bind,Result.andThen_ok,zbO,Sem.run_pure,cells1v (RC.one hv)]
        · have hv2:=zfL (γ':=γ') (T':=T) hr hx hg (fun _ _=>rfl)
          rw [he] at hv2
          cases hv2 with|one hv2=>exact hv2
    · cases h
  · cases h
theorem zkM (P:Program) (w:World) (t:TypeId) (x y:ByteArray) (h:x.size+y.size≤9223372036854775807):(binOp .add t (.string x) (.string y)).run P w=.ok (.string (x++y)) w:=by
  have hmax:IntKind.i64.max=9223372036854775807:=by decide
  have hn:¬ (((x.size+y.size:Nat):Int) > IntKind.i64.max):=by rw [hmax];omega
  simp only [binOp,Op.stringOp]
  rw [if_neg hn]
  rfl
theorem zhq (hT:∀ t i,X.Ty t=some i→TyOK X.P t i) {op:BinOp} {t t':TypeId} {x y:Operand} {r:Out} (ho:o.op=.binOp op t x y t') (h:aop X o fr σ=some r):PureS X o fr σ r:=by
  unfold aop at h
  simp only [ho] at h
  have hbt:isTag 5 (X.Ty t)=true→X.P.underlying t=some .bool:=by
    intro hb
    unfold isTag at hb
    split at hb
    · rename_i i hi
      obtain ⟨inf,d,h1,h2,_,_,_,_,_,_,_,h11⟩:=(hT t i hi).get
      have h5:tagOf d=5:=by rw [h11];exact Nat.eq_of_beq_eq_true hb
      cases d<;>first|exact h2|(simp [tagOf] at h5)
    · cases hb
  split at h
  · rename_i u v hx hy
    simp only [Option.map_eq_some_iff] at h
    obtain ⟨z,hz,rfl⟩:=h
    refine zaA fun γ T S w a hr=>?_
    have e1:=zaw (zae hr hx)
    have e2:=zaw (zae hr hy)
    refine ⟨z,?_,.one (.v _ ?_)⟩
    · simp only [execOp,ho,e1,e2]
      unfold abin at hz
      split at hz<;>first
        | (cases hz;done)
        | (injection hz with hz;subst hz;simp [eqGuard,binOp,Op.stringOp];done)
        | (split at hz
           · rename_i hc
             injection hz with hz;subst hz
             first
             | (subst hc;simp [eqGuard,binOp,Op.intArith,Op.intCmp,Op.intBits,Op.floatCmp,Op.floatEq];done)
             | (subst hc;simp [eqGuard,binOp,Op.floatCmp,Op.floatEq,bne];done)
             | (subst hc;simp [eqGuard,binOp,Op.floatCmp,Op.floatEq];rfl)
             | (obtain ⟨rfl,hc⟩:=hc;simp [eqGuard,binOp,Op.intDiv,hc];done)
             | (simp [eqGuard,binOp,Op.shift,Int.not_lt.2 hc];done)
             | (simp [eqGuard,run_eql_bool w t _ _ (hbt hc)];done)
             | (simp [eqGuard,run_neq_bool w t _ _ (hbt hc)];done)
             | (simp [eqGuard,zkM X.P w t _ _ hc];done)
           · cases hz)
    · unfold abin at hz
      split at hz<;>first
        | (cases hz;done)
        | (injection hz with hz;subst hz;rfl)
        | (split at hz
           · injection hz with hz;subst hz;rfl
           · cases hz)
  · cases h
theorem zh8 {op:UnOp} {t:TypeId} {x:Operand} {r:Out} (ho:o.op=.unOp op t x) (h:aop X o fr σ=some r):PureS X o fr σ r:=by
  unfold aop at h
  simp only [ho] at h
  split at h
  · rename_i u hx
    simp only [Option.map_eq_some_iff] at h
    obtain ⟨z,hz,rfl⟩:=h
    refine zaA fun γ T S w a hr=>?_
    have e1:=zaw (zae hr hx)
    refine ⟨z,?_,.one (.v _ ?_)⟩
    · simp only [execOp,ho,e1]
      unfold aun at hz
      split at hz<;>first
        | (cases hz;done)
        | (injection hz with hz;subst hz;simp [Op.unary,Op.intArith];done)
    · unfold aun at hz
      split at hz<;>first
        | (cases hz;done)
        | (injection hz with hz;subst hz;rfl)
  · cases h
theorem zeB (hT:∀ t i,X.Ty t=some i→TyOK X.P t i) {s t:TypeId} {x:Operand} {r:Out} (ho:o.op=.convert s t x) (h:aop X o fr σ=some r):PureS X o fr σ r:=by
  unfold aop at h
  simp only [ho] at h
  split at h
  · rename_i i0 i k0 n hs hi hx
    split at h
    · rename_i k hk
      injection h with h;subst h
      refine zaA fun γ T S w a hr=>?_
      have e1:=zaw (zae hr hx)
      obtain ⟨inf,d,h1,h2,h3,h4,h5,h6,h7,h8,h10,_⟩:=(hT t i hi).get
      rw [hk] at h10
      obtain ⟨_,d',_,hd',_⟩:=(hT s i0 hs).get
      cases d with
      | int k' =>
        simp only [kindOf,Option.some.injEq] at h10
        subst h10
        exact ⟨_,by simp [execOp,ho,e1,convert,run_underlying hd',run_underlying h2,Conv.intToInt],.one (.v _ rfl)⟩
      | _=>cases h10
    · cases h
  · cases h
end
end Go.Proofs.YtiplihojmfbjkaaGreat
namespace Go.Proofs.YtiplihojmfbjkaaGreat
open Go.RowKit
section
variable {X:Ctx} {γ γ':Nat→Nat} {T T':Nat→Value} {S S':Nat→Nat→Prop} {w w':World} {fr:Fr} {σ:Obs} {a:Act} {o:Oper}
theorem Kp.row {g:Nat} (cs:Array Value) (h:∀ i,¬ S g i):Kp S w (w.setRow g cs):=fun b i x hs hc =>
  (cell_setRow_other w g cs ⟨b,i,none⟩ (fun e=>by simp only at e;subst e;exact h i hs)).trans hc
theorem Rel.write {k:Nat} {ob ob':Ob} (h:Rel X γ T S w fr σ a) (hl:look σ k=some ob) (hf:∀ b,fp γ T k ob b↔b=γ k) (hf':∀ b,fp γ T k ob' b→b=γ k) (hS:∀ i,¬ S (γ k) i)
    (cs:Array Value) (hro:RO X γ T S (w.setRow (γ k) cs) k ob'):Rel X γ T S (w.setRow (γ k) cs) fr ((k,ob') :: σ) a:=by
  have hk:Kp S w (w.setRow (γ k) cs):=.row cs hS
  have hfree:=(h.st.obj k ob hl).free ((hf _).2 rfl)
  obtain ⟨⟨keep,lt,nlt,set,mon,obj,dis⟩,hfr,hn,hdf⟩:=h
  refine ⟨⟨⟨keep.os,keep.tape,keep.output,by simpa using keep.size,fun b hb hlt=>?_⟩,fun b i hs=>by simpa using lt b i hs,nlt,set,⟨mon.1,fun b o x hs hc=>hk b o x (mon.1 b o hs) (mon.2 b o x hs hc)⟩,fun j o hj=>?_,fun i j o o' hi hj hne b hb=>?_⟩,fun t x hx=>(hfr t x hx).mono (fun _ _ hs=>hs) hk,hn,hdf⟩
  · rw [setRow_other w _ _ _ (show b≠γ k from fun e=>hfree (by rw [← e];exact hb))];exact keep.block b hb hlt
  · simp only [look] at hj
    split at hj
    · rename_i e;injection hj with hj;subst hj;subst e;exact hro
    · rename_i hne
      refine (obj j o hj).kept (fun _ _ hs=>hs) hk fun b hb=>⟨setRow_other w _ _ _ (fun e=>?_),fun _ hs=>hs⟩
      exact dis j k o ob hj hl (fun e=>hne e.symm) b hb ((hf b).2 e)
  · simp only [look] at hi hj
    split at hi<;>split at hj
    · rename_i e1 e2;exact (hne (e1.symm.trans e2)).elim
    · rename_i e1 e2;injection hi with hi;subst hi;subst e1
      exact fun hb'=>dis k j ob o' hl hj hne b ((hf b).2 (hf' b hb)) hb'
    · rename_i e1 e2;injection hj with hj;subst hj;subst e2
      exact fun hb'=>dis i k o ob hi hl hne b hb ((hf b).2 (hf' b hb'))
    · exact dis i j o o' hi hj hne b hb
theorem zd6 {cs ds:List D} {us vs:List Value} (h:RDL S w cs us) (k:RDL S w ds vs) {off:Nat} (hle:off+ds.length≤cs.length):RDL S w (splice cs off ds) (us.take off++vs++us.drop (off+vs.length)):=by
  have key:RDL S w (cs.take off++ds++cs.drop (off+ds.length)) (us.take off++vs++us.drop (off+vs.length)):=by
    rw [k.1];exact ((h.take off).app k).app (h.drop _)
  unfold splice
  split
  · rename_i d
    have e:cs.set off d=cs.take off++[d]++cs.drop (off+1):=by
      rw [List.set_eq_take_append_cons_drop,if_pos (by simp at hle;omega)]
      simp
    rw [e];exact key
  · split
    · rename_i hc
      rw [hc.1,List.take_zero,List.nil_append,Nat.zero_add,hc.2,List.drop_of_length_le (Nat.le_refl _),List.append_nil] at key
      rw [hc.1];exact key
    · exact key
theorem zgA {cs ds:List C} {us vs:List Value} (h:RCL γ T S w cs us) (k:RCL γ T S w ds vs) {off:Nat} (hle:off+ds.length≤cs.length):RCL γ T S w (spliceC cs off ds) (us.take off++vs++us.drop (off+vs.length)):=by
  have key:RCL γ T S w (cs.take off++ds++cs.drop (off+ds.length)) (us.take off++vs++us.drop (off+vs.length)):=by
    rw [k.1];exact ((h.take off).app k).app (h.drop _)
  unfold spliceC
  split
  · rename_i d
    have e:cs.set off d=cs.take off++[d]++cs.drop (off+1):=by
      rw [List.set_eq_take_append_cons_drop,if_pos (by simp at hle;omega)]
      simp
    rw [e];exact key
  · split
    · rename_i hc
      rw [hc.1,List.take_zero,List.nil_append,Nat.zero_add,hc.2,List.drop_of_length_le (Nat.le_refl _),List.append_nil] at key
      rw [hc.1];exact key
    · exact key
theorem RCL.mono (hS:∀ b o,S b o→S' b o) (hk:Kp S w w') {cs:List C} {us:List Value} (h:RCL γ T S w cs us):RCL γ T S' w' cs us :=
  ⟨h.1,fun j c hc=>let ⟨u,g1,g2,g3⟩:=h.2 j c hc;⟨u,g1,g2.mono hS hk,g3⟩⟩
theorem zji (hT:∀ t i,X.Ty t=some i→TyOK X.P t i) {t:TypeId} {p x:Operand} {r:Out} (ho:o.op=.store t p x) (h:aop X o fr σ=some r):Sound X o fr σ r:=by
  unfold aop at h
  simp only [ho] at h
  split at h
  · rename_i i k off v hi hp hx hd
    have hok:=hT t i hi
    obtain ⟨inf,d,h1,h2,h3,_⟩:=hok.get
    split at h
    · rename_i ty cs hl
      split at h
      · rename_i ds hds
        split at h
        · rename_i hc
          injection h with h;subst h
          intro γ T S w a hr
          obtain ⟨us,g1,g2,g3,g4⟩:=hr.st.obj k _ hl
          have hpv:=zae hr hp
          have hv:=zcG hds (zae hr hx)
          cases hpv with
          | one hpv =>
            have hlen:(a.eval x).cells.toList.length=i.size:=by rw [hv.1];exact hc.1
            have hst:(storeVar t ⟨γ k,off,none⟩ (a.eval x)).run X.P w=.ok () (w.setRow (γ k) (us.take off++(a.eval x).cells.toList++us.drop (off+(a.eval x).cells.toList.length)).toArray):=by
              have:=run_storeCells_at X.P (γ k) off ty (a.eval x).cells.toList 0 us.toArray w g1 (by rw [hlen];simp [g2.1];exact hc.2) hv.all1
              simp only [Nat.add_zero] at this
              have hsz:(a.eval x).cells.size=inf.size:=by rw [h3,← hlen];simp
              simp only [storeVar,Sem.run_bind,zaP h1,Result.andThen_ok,hsz,ne_eq,not_true,if_false,this]
            refine ⟨γ,T,S,_,undef,.inr ⟨?_,rfl⟩,hr.write (ob':=.box ty (splice cs off ds)) hl (fun b=>Iff.rfl) (fun b hb=>hb) g3 _ ⟨us.take off++(a.eval x).cells.toList++us.drop (off+(a.eval x).cells.toList.length),setRow_heap w _ _ _ _ _ g1,?_,g3,g4⟩,.junk _⟩
            · simp only [execOp,ho,show a.eval p=_ from hpv,Instr.storeAt,Instr.sureAddr,Sem.run_bind,Sem.run_pure,Result.andThen_ok,hst]
            · have hk:Kp S w (w.setRow (γ k) (us.take off++(a.eval x).cells.toList++us.drop (off+(a.eval x).cells.toList.length)).toArray) :=
                .row _ g3
              exact (zd6 g2 hv (by omega)).mono (fun _ _ hs=>hs) hk
        · cases h
      · cases h
    · rename_i ty c0 hl
      split at h
      · rename_i c
        split at h
        · rename_i hc
          injection h with h;subst h
          intro γ T S w a hr
          obtain ⟨u,g1,g2,g5,g3,g4⟩:=hr.st.obj k _ hl
          have hpv:=zae hr hp
          have hv:=zae hr hx
          cases hv with
          | one hv =>
            cases hpv with
            | one hpv =>
              have h1c:=RC.one hv
              have hst:(storeVar t ⟨γ k,0,none⟩ (a.eval x)).run X.P w=.ok () (w.setRow (γ k) #[a.eval x]):=by
                have:=run_storeCells_at X.P (γ k) 0 ty [a.eval x] 0 #[u] w g1 (by simp) (by simpa using h1c)
                simp only [Nat.add_zero] at this
                have hsz:(a.eval x).cells.size=inf.size:=by rw [h3,hc.1,cells1v h1c];rfl
                simp only [storeVar,Sem.run_bind,zaP h1,Result.andThen_ok,hsz,ne_eq,not_true,if_false]
                rw [cells1v h1c]
                exact this
              have e:a.eval p=.pointer (some ⟨γ k,0,none⟩):=by rw [← hc.2];exact hpv
              have hk:Kp S w (w.setRow (γ k) #[a.eval x]):=.row _ g3
              refine ⟨γ,T,S,_,undef,.inr ⟨?_,rfl⟩,hr.write (ob':=.cell ty c) hl (fun b=>Iff.rfl) (fun b hb=>hb) g3 #[a.eval x] ⟨_,setRow_heap w _ _ _ _ _ g1,hv.mono (fun _ _ hs=>hs) hk,h1c,g3,g4⟩,.junk _⟩
              simp only [execOp,ho,e,Instr.storeAt,Instr.sureAddr,Sem.run_bind,Sem.run_pure,Result.andThen_ok,hst]
        · cases h
      · cases h
    · rename_i ty cs hl
      split at h
      · rename_i ds hds
        split at h
        · rename_i hc
          injection h with h;subst h
          intro γ T S w a hr
          obtain ⟨us,g1,g2,g3,g4,g5⟩:=hr.st.obj k _ hl
          have g2:RCL γ T S w cs us:=g2
          have hpv:=zae hr hp
          have hv:=ze6 hds (zae hr hx)
          cases hpv with
          | one hpv =>
            have hlen:(a.eval x).cells.toList.length=i.size:=by rw [hv.1];exact hc.1
            have hst:(storeVar t ⟨γ k,off,none⟩ (a.eval x)).run X.P w=.ok () (w.setRow (γ k) (us.take off++(a.eval x).cells.toList++us.drop (off+(a.eval x).cells.toList.length)).toArray):=by
              have:=run_storeCells_at X.P (γ k) off ty (a.eval x).cells.toList 0 us.toArray w g1 (by rw [hlen];simp [g2.1];exact hc.2) hv.all1
              simp only [Nat.add_zero] at this
              have hsz:(a.eval x).cells.size=inf.size:=by rw [h3,← hlen];simp
              simp only [storeVar,Sem.run_bind,zaP h1,Result.andThen_ok,hsz,ne_eq,not_true,if_false,this]
            have hk:Kp S w (w.setRow (γ k) (us.take off++(a.eval x).cells.toList++us.drop (off+(a.eval x).cells.toList.length)).toArray):=.row _ g3
            refine ⟨γ,T,S,_,undef,.inr ⟨?_,rfl⟩,hr.write (ob':=.obj ty (spliceC cs off ds)) hl (fun b=>Iff.rfl) (fun b hb=>hb) g3 _ ⟨us.take off++(a.eval x).cells.toList++us.drop (off+(a.eval x).cells.toList.length),setRow_heap w _ _ _ _ _ g1,(zgA g2 hv (by omega)).mono (fun _ _ hs=>hs) hk,g3,g4,g5⟩,.junk _⟩
            simp only [execOp,ho,show a.eval p=_ from hpv,Instr.storeAt,Instr.sureAddr,Sem.run_bind,Sem.run_pure,Result.andThen_ok,hst]
        · cases h
      · cases h
    · cases h
  · cases h
theorem ziy {α β:Type} {f:α→Option β}:∀ {l:List α} {r:List β},l.mapM f=some r→ ∀ (j:Nat) (x:α),l[j]?=some x→ ∃ y,f x=some y∧r[j]?=some y
  | [],r,h,j,x,hx=>by simp at hx
  | z :: l,r,h,j,x,hx=>by
    simp only [List.mapM_cons,Option.bind_eq_bind,Option.pure_def,Option.bind_eq_some_iff] at h
    obtain ⟨y,hy,r',hr',h2⟩:=h
    injection h2 with h2;subst h2
    cases j with
    | zero=>simp only [List.getElem?_cons_zero,Option.some.injEq] at hx;subst hx;exact ⟨y,hy,rfl⟩
    | succ j=>exact ziy hr' j x (by simpa using hx)
theorem ziM {α β:Type} {f:α→Option β}:∀ {l:List α} {r:List β},l.mapM f=some r→r.length=l.length
  | [],r,h=>by simp at h;subst h;rfl
  | z :: l,r,h=>by
    simp only [List.mapM_cons,Option.bind_eq_bind,Option.pure_def,Option.bind_eq_some_iff] at h
    obtain ⟨y,hy,r',hr',h2⟩:=h
    injection h2 with h2;subst h2
    simp [ziM hr']
theorem zfh (hT:∀ t i,X.Ty t=some i→TyOK X.P t i) {t:TypeId} {i:TyI} (hi:X.Ty t=some i) (htag:i.tag=1) {f off s:Nat} (hpl:i.places[f]?=some (off,s)) (hs:s≠0) (w:World) (b o:Nat) :
    (Instr.fieldAt t (.pointer (some ⟨b,o,none⟩)) f).run X.P w=.ok (.pointer (some ⟨b,o+off,none⟩)) w:=by
  obtain ⟨inf,d,h1,h2,h3,h4,h5,h6,h7,h8,h9,h10⟩:=(hT t i hi).get
  rw [htag] at h10
  cases d with
  | struct fs =>
    have hlt:f < fs.toList.length:=by rw [← ziM h8];exact (List.getElem?_eq_some_iff.1 hpl).1
    obtain ⟨y,hy,hr⟩:=ziy h8 f _ (List.getElem?_eq_getElem hlt)
    rw [hpl] at hr
    injection hr with hr
    rw [← hr,Option.map_eq_some_iff] at hy
    obtain ⟨fi,hfi,he⟩:=hy
    injection he with he1 he2
    have hget:fs[f]?=some fs.toList[f]:=by rw [← Array.getElem?_toList,List.getElem?_eq_getElem hlt]
    simp only [Instr.fieldAt,Sem.run_bind,run_underlying h2,Result.andThen_ok,hget,Instr.sureAddr,Sem.run_pure,fieldPlace,zaP hfi,he2,if_neg hs,Addr.add_lit,he1]
  | _=>simp [tagOf] at h10
theorem zfy (hT:∀ t i,X.Ty t=some i→TyOK X.P t i) {t:TypeId} {p:Operand} {f:Nat} {r:Out} (ho:o.op=.fieldAddr t p f) (h:aop X o fr σ=some r):PureS X o fr σ r:=by
  unfold aop at h
  simp only [ho] at h
  split at h
  · rename_i i k off hi hp
    split at h
    · rename_i off' s hpl
      split at h
      · cases h
      · rename_i hc
        injection h with h;subst h
        refine zaA fun γ T S w a hr=>?_
        have hpv:=zae hr hp
        cases hpv with
        | one hpv =>
          have:=zfh hT hi (by by_cases e:i.tag=1<;>simp_all) hpl (by by_cases e:s=0<;>simp_all) w (γ k) off
          exact ⟨_,by simp only [execOp,ho,show a.eval p=_ from hpv,Sem.run_bind,this,Result.andThen_ok,Sem.run_pure],.one rfl⟩
    · cases h
  · rename_i i cs hi hp
    split at h
    · rename_i off' s hpl
      split at h
      · cases h
      · rename_i hc
        injection h with h;subst h
        refine zaA fun γ T S w a hr=>?_
        have hpv:=zae hr hp
        cases hpv with
        | one hpv =>
          generalize he:a.eval p=pv at hpv
          cases hpv with
          | pi _ ad vs spot val mem =>
            obtain ⟨b,off,sp⟩:=ad
            simp only at spot mem
            subst spot
            have:=zfh hT hi (by by_cases e:i.tag=1<;>simp_all) hpl (by by_cases e:s=0<;>simp_all) w b off
            refine ⟨.pointer (some ⟨b,off+off',none⟩),by simp only [execOp,ho,he,Sem.run_bind,this,Result.andThen_ok,Sem.run_pure],.one ?_⟩
            refine RD.pi _ _ (fun j=>vs (off'+j)) rfl (fun j x hx=>val _ x (by rwa [List.getElem?_drop] at hx)) fun j hj=>?_
            rw [List.length_drop] at hj
            have:=mem (off'+j) (by omega)
            simp only
            rw [Nat.add_assoc]
            exact this
    · cases h
  · cases h
theorem zdx (hT:∀ t i,X.Ty t=some i→TyOK X.P t i) {t:TypeId} {x ix:Operand} {r:Out} (ho:o.op=.indexAddr t x ix) (h:aop X o fr σ=some r):PureS X o fr σ r:=by
  unfold aop at h
  simp only [ho] at h
  split at h
  · rename_i i rows n hi hx hn
    split at h
    · rename_i e q he hq
      split at h
      · rename_i hc
        injection h with h;subst h
        refine zaA fun γ T S w a hr=>?_
        obtain ⟨xv,hx1,hx2⟩:=Option.bind_eq_some_iff.1 hx
        obtain ⟨nv,hn1,hn2⟩:=Option.bind_eq_some_iff.1 hn
        have hrd:=zaR hx2 (zae hr hx1)
        obtain ⟨k,hk⟩:=zcd hn2 (zae hr hn1)
        obtain ⟨inf,d,h1,h2,h3,h4,h5,h6,h7,h8,h9,h10⟩:=(hT t i hi).get
        obtain ⟨inf',d',h1',h2',h3',_⟩:=(hT _ e he).get
        rw [hc.2.2] at h10
        cases d with
        | slice el =>
          simp only [elemOfD] at h7
          subst h7
          generalize hev:a.eval x=xv' at hrd
          cases hrd with
          | sl _ A c sz vs cap lim nil row val spot mem =>
            have hlt:n.toNat < rows.length:=(List.getElem?_eq_some_iff.1 hq).1
            have hsz:sz=e.size:=(row _ _ hq).symm.trans hc.2.1
            cases A with
            | none=>rw [nil rfl] at hlt;simp at hlt
            | some ad =>
              have hsp:=spot ad rfl (by omega)
              obtain ⟨b,off,sp⟩:=ad
              simp only at hsp
              subst hsp
              have hin:0≤n∧n < (rows.length:Int):=by have:=hc.1;omega
              refine ⟨.pointer (some ⟨b,off+n.toNat * e.size,none⟩),?_,.one (.pi _ _ (fun j=>vs n.toNat j) rfl (fun j y hy=>val _ _ hq j y hy) fun j hj=>?_)⟩
              · simp only [execOp,ho,hev,hk,Instr.indexAt,asIntOf,Sem.run_bind,Sem.run_pure,run_underlying h2,Result.andThen_ok]
                rw [if_pos hin]
                simp only [Sem.run_bind,zaP h1',Result.andThen_ok,Sem.run_pure,Addr.add_lit,h3']
              · have:=mem _ rfl n.toNat hlt j (by rw [← row _ _ hq];exact hj)
                simp only at this ⊢
                rw [Nat.add_assoc,← hsz]
                exact this
        | _=>simp [tagOf] at h10
      · cases h
    · cases h
  · cases h
theorem znV {s:ByteArray} {n:Nat} {b:UInt8} (h:s.data.toList[n]?=some b):s[n]?=some b:=by
  obtain ⟨hlt,he⟩:=List.getElem?_eq_some_iff.1 h
  have hlt':n < s.size:=by simpa using hlt
  rw [getElem?_pos s n hlt']
  congr 1
theorem zft (hT:∀ t i,X.Ty t=some i→TyOK X.P t i) {t:TypeId} {x ix:Operand} {r:Out} (ho:o.op=.index t x ix) (h:aop X o fr σ=some r):PureS X o fr σ r:=by
  unfold aop at h
  simp only [ho] at h
  split at h
  · rename_i i s n hi hx hn
    split at h
    · rename_i b hb
      split at h
      · rename_i hc
        injection h with h;subst h
        refine zaA fun γ T S w a hr=>?_
        obtain ⟨xv,hx1,hx2⟩:=Option.bind_eq_some_iff.1 hx
        obtain ⟨nv,hn1,hn2⟩:=Option.bind_eq_some_iff.1 hn
        have e1:=zeb hx2 (zae hr hx1)
        obtain ⟨k,hk⟩:=zcd hn2 (zae hr hn1)
        obtain ⟨inf,d,h1,h2,h3,h4,h5,h6,h7,h8,h9,h10⟩:=(hT t i hi).get
        rw [hc.2] at h10
        cases d with
        | string =>
          refine ⟨_,?_,.one (.v _ rfl)⟩
          simp only [execOp,ho,e1,hk,Instr.index,asIntOf,Sem.run_bind,Sem.run_pure,run_underlying h2,Result.andThen_ok,if_pos hc.1,znV hb]
        | _=>simp [tagOf] at h10
      · cases h
    · cases h
  · cases h
end
end Go.Proofs.YtiplihojmfbjkaaGreat
