/- Structs and slices that are written out;lengths;all operations in one. -/
import Derived.Test.YtiplihojmfbjkaaGreatW5
namespace Go.Proofs.YtiplihojmfbjkaaGreat
open Go.RowKit
section
variable {X:Ctx} {γ γ':Nat→Nat} {T T':Nat→Value} {S S':Nat→Nat→Prop} {w w':World} {fr:Fr} {σ:Obs} {a:Act} {o:Oper}
theorem zia (off:Nat):∀ (us:List Value) (k:Nat) (cells:Array Value),off+k+us.length≤cells.size→
    ((us.zipIdx k).foldl (fun cs (p:Value × Nat)=>cs.setIfInBounds (off+p.2) p.1) cells).toList=cells.toList.take (off+k)++us++cells.toList.drop (off+k+us.length)
  | [],k,cells,_=>by simp
  | u :: us,k,cells,h=>by
    rw [List.zipIdx_cons,List.foldl_cons]
    simp only [List.length_cons] at h
    rw [zia off us (k+1) _ (by simp;omega)]
    have hl:off+k < cells.toList.length:=by simpa using (by omega:off+k < cells.size)
    simp only [Array.toList_setIfInBounds,List.length_cons]
    rw [List.set_eq_take_append_cons_drop,if_pos hl]
    have e1:off+(k+1)=off+k+1:=by omega
    have e2:off+(k+1)+us.length=off+k+1+us.length:=by omega
    rw [e1]
    have ht:(cells.toList.take (off+k)).length=off+k:=by rw [List.length_take];omega
    rw [List.take_append,ht,List.take_of_length_le (by omega),show off+k+1 - (off+k)=1 by omega,List.take_succ_cons,List.take_zero]
    rw [List.drop_append,ht,List.drop_of_length_le (by omega),List.nil_append,show off+k+1+us.length - (off+k)=us.length+1 by omega,List.drop_succ_cons,List.drop_drop]
    simp only [List.append_assoc,List.cons_append,List.nil_append]
    rw [show off+k+1+us.length=off+k+(us.length+1) by omega]
theorem zhC (place:Nat→Option (Nat × Nat)) (cells:Array Value) (f off s:Nat) (v:Value) (rest:List (Nat × Value)) (hp:place f=some (off,s)) (h1:v.cells.size=s) (h2:off+s≤cells.size) :
    ∃ cells',Instr.fill place cells ((f,v) :: rest)=Instr.fill place cells' rest∧cells'.toList=cells.toList.take off++v.cells.toList++cells.toList.drop (off+v.cells.toList.length):=by
  have:=zia off v.cells.toList 0 cells (by simp;omega)
  simp only [Nat.add_zero] at this
  refine ⟨_,?_,this⟩
  simp only [Instr.fill,hp,h1]
  rw [if_neg (by simp;omega)]
  congr 1
  rw [← Array.foldl_toList,Array.toList_zipIdx]
theorem zga (hr:Rel X γ T S w fr σ a) {places:List (Nat × Nat)}:∀ (ps:List (Nat × Operand)) (cs:List D) (cells:Array Value) {ds:List D},RDL S w cs cells.toList→layF places fr ps cs=some ds→
    ∃ cells',Instr.fill (places.toArray[·]?) cells (ps.map fun p=>(p.1,a.eval p.2))=some cells'∧RDL S w ds cells'.toList
  | [],cs,cells,ds,h,hl=>by simp only [layF,Option.some.injEq] at hl;subst hl;exact ⟨cells,rfl,h⟩
  | (f,x) :: ps,cs,cells,ds,h,hl=>by
    simp only [layF] at hl
    split at hl
    · rename_i off s es hp he
      split at hl
      · rename_i hc
        obtain ⟨xv,hx1,hx2⟩:=Option.bind_eq_some_iff.1 he
        have hv:=zcG hx2 (zae hr hx1)
        have hsz:(a.eval x).cells.size=s:=by rw [← hc.1,← hv.1];simp
        have hle:off+s≤cells.size:=by have:=h.1;simp at this;omega
        obtain ⟨cells',h1,h2⟩:=zhC (places.toArray[·]?) cells f off s (a.eval x) (ps.map fun p=>(p.1,a.eval p.2)) (by simpa using hp) hsz hle
        obtain ⟨cells2,h3,h4⟩:=zga hr ps _ cells' (by rw [h2];exact zd6 h hv (by omega)) hl
        exact ⟨cells2,by rw [List.map_cons,h1,h3],h4⟩
      · cases hl
    · cases hl
theorem zfo (hT:∀ t i,X.Ty t=some i→TyOK X.P t i) {t:TypeId} {ps:Array (Nat × Operand)} {r:Out} (ho:o.op=.build t ps) (h:aop X o fr σ=some r):PureS X o fr σ r:=by
  unfold aop at h
  simp only [ho] at h
  split at h
  · rename_i i hi
    split at h
    · rename_i htag
      rw [Option.map_eq_some_iff] at h
      obtain ⟨cs,hcs,rfl⟩:=h
      refine zaA fun γ T S w a hr=>?_
      have hok:=hT t i hi
      obtain ⟨inf,d,h1,h2,h3,h4,h5,h6,h7,h8,h9,h10⟩:=hok.get
      rw [htag] at h10
      cases d with
      | struct fs =>
        simp only [aggOf] at h6
        rw [if_pos h6.symm] at h5
        obtain ⟨cells',g1,g2⟩:=zga hr ps.toList (i.zero.map zc) i.zero.toArray (RDL.zcs hok.z1) hcs
        have hb:X.P.built t (ps.map fun p=>(p.1,a.eval p.2)).toList=some cells':=by
          unfold Program.built
          simp only [h1,h2,h5]
          rw [show fs.toList.mapM (fun f=>(X.P.info? f.type).map fun i=>(f.offset,i.size))=some i.places from h8]
          simpa [Value.cells] using g1
        refine ⟨.agg cells',?_,by simpa using RV.dat (γ:=γ) (T:=T) g2⟩
        simp only [execOp,ho,Sem.run_bind,run_build w t _ _ hb,Result.andThen_ok,Sem.run_pure]
      | _=>simp [tagOf] at h10
    · cases h
  · cases h
theorem zel (hr:Rel X γ T S w fr σ a) {sz:Nat}:∀ (n:Nat) (ps:List (Nat × Operand)) {rows:List (List D)},layR sz fr n ps=some rows→
    ∃ vals:List Value,vals.length=rows.length∧(ps.map fun p=>(p.1,a.eval p.2))=(vals.zipIdx n).map (fun x=>(x.2,x.1))∧(∀ v∈vals,v.cells.size=sz)∧ ∀ (i:Nat) (q:List D),rows[i]?=some q→q.length=sz∧ ∃ v,vals[i]?=some v∧RDL S w q v.cells.toList
  | n,[],rows,h=>by simp only [layR,Option.some.injEq] at h;subst h;exact ⟨[],rfl,rfl,by simp,by simp⟩
  | n,(i,x) :: ps,rows,h=>by
    simp only [layR] at h
    split at h
    · rename_i ds he
      split at h
      · rename_i hc
        rw [Option.map_eq_some_iff] at h
        obtain ⟨rows',hrows,rfl⟩:=h
        obtain ⟨xv,hx1,hx2⟩:=Option.bind_eq_some_iff.1 he
        have hv:=zcG hx2 (zae hr hx1)
        obtain ⟨vals,h1,h2,h3,h4⟩:=zel hr (n+1) ps hrows
        refine ⟨a.eval x :: vals,by simp [h1],by simp [h2,hc.1],?_,?_⟩
        · intro v hm
          rcases List.mem_cons.1 hm with rfl|hm
          · rw [← hc.2,← hv.1];simp
          · exact h3 v hm
        · intro j q hj
          cases j with
          | zero=>simp only [List.getElem?_cons_zero,Option.some.injEq] at hj;subst hj;exact ⟨hc.2,_,rfl,hv⟩
          | succ j=>simpa using h4 j q (by simpa using hj)
      · cases h
    · cases h
theorem Rel.fresh (k:Nat) (hr:Rel X γ T S w fr σ a) (ty:TypeId) {sz:Nat} (hsz:0 < sz) {rows:List (List D)} {vals:List Value} (hlen:vals.length=rows.length) (hall:∀ v∈vals,v.cells.size=sz)
    (hrow:∀ (i:Nat) (q:List D),rows[i]?=some q→q.length=sz∧ ∃ v,vals[i]?=some v∧RDL S w q v.cells.toList) (hbig:rows.length≤281474976710656) :
    ∃ S',Rel X γ (setK T k (.slice (some ⟨w.heap.size,0,none⟩) rows.length rows.length)) S' (w.alloc (.cells (vals.flatMap fun v=>v.cells.toList).toArray ty)) (stripF k fr) ((k,.tok ty sz) :: stripS k σ) a∧
      RV γ (setK T k (.slice (some ⟨w.heap.size,0,none⟩) rows.length rows.length)) S' (w.alloc (.cells (vals.flatMap fun v=>v.cells.toList).toArray ty)) (.one (.own k rows)) (.slice (some ⟨w.heap.size,0,none⟩) rows.length rows.length)∧
      (∀ b o,S b o→S' b o)∧(∀ b o,S' b o→S b o∨(w.heap.size≤b∧b < (w.alloc (.cells (vals.flatMap fun v=>v.cells.toList).toArray ty)).heap.size)):=by
  have hflat:(vals.flatMap fun v=>v.cells.toList).length=rows.length * sz:=by
    clear hrow
    rw [← hlen]
    clear hlen
    induction vals with
    | nil=>simp
    | cons v vs ih =>
      rw [List.flatMap_cons,List.length_append,ih (fun v hv=>hall v (List.mem_cons_of_mem _ hv)),List.length_cons,Nat.add_mul]
      have:=hall v List.mem_cons_self
      simp only [Array.length_toList];omega
  let S':Nat→Nat→Prop:=fun b o=>S b o∨(b=w.heap.size∧o < rows.length * sz)
  have hb:=zbh w (.cells (vals.flatMap fun v=>v.cells.toList).toArray ty)
  have hS:∀ b o,S b o→S' b o:=fun _ _ hs=>.inl hs
  have hk:Kp S w (w.alloc (.cells (vals.flatMap fun v=>v.cells.toList).toArray ty)):=.of_below hr.st.lt hb
  have hS2:∀ b o,S' b o→S b o∨(w.heap.size≤b∧b < (w.alloc (.cells (vals.flatMap fun v=>v.cells.toList).toArray ty)).heap.size):=fun b o hs=>hs.imp id fun e=>by
    have:=e.1;subst this;exact ⟨Nat.le_refl _,za0 (heap_alloc_new w _)⟩
  have g1:=hr.grow hb hS hS2
  have g2:=g1.upd (γ':=γ) (T':=setK T k (.slice (some ⟨w.heap.size,0,none⟩) rows.length rows.length)) k (fun _ _=>rfl) (fun j hj=>zaz _ _ _ _ hj)
  refine ⟨S',g2.add (fun o hl=>?_) ?_ fun b hfp k' o' hl hne hb'=>?_,.one ⟨?_,zaq _ _ _⟩,hS,hS2⟩
  · rw [zar,Option.map_eq_some_iff] at hl
    obtain ⟨o',_,h3⟩:=hl
    simpa using h3.symm
  · refine ⟨rows.length,(vals.flatMap fun v=>v.cells.toList),⟨hflat,.inr ⟨w.heap.size,rows.length,_,zaq _ _ _,Nat.zero_le _,heap_alloc_new w _,Nat.le_refl _,by unfold maxLen;omega,by simp only [List.size_toArray,hflat],by rw [← hflat];exact List.take_length⟩⟩,fun g hg=>?_⟩
    rw [zaq] at hg
    simp only [Value.ownBlock,Option.some.injEq] at hg
    subst hg
    exact ⟨(za6 hr _ (Nat.le_refl _)).2,fun o ho=>ho.elim (fun h=>((za6 hr _ (Nat.le_refl _)).1 o h).elim) (fun h=>h.2)⟩
  · simp only [fp,zaq,Value.ownBlock,Option.some.injEq] at hfp
    rw [zar,Option.map_eq_some_iff] at hl
    obtain ⟨o2,h3,h4⟩:=hl
    rw [if_neg hne] at h4
    subst h4
    have h5:=fp.strip (γ:=γ) (T:=T) hne (fun _ _=>rfl) (fun j hj=>zaz _ _ _ _ hj) hb'
    have:=(hr.st.obj k' o2 h3).lt h5
    omega
  · refine .sl rows (some ⟨w.heap.size,0,none⟩) rows.length sz (fun i j=>((vals[i]?).bind (fun v=>v.cells[j]?)).getD undef) (Nat.le_refl _) hbig (fun h=>by cases h) (fun i q hq=>(hrow i q hq).1) (fun i q hq j x hx=>?_) (fun a h _=>by cases h;rfl) fun a h i hi j hj=>?_
    · obtain ⟨_,v,hv,hrd⟩:=hrow i q hq
      obtain ⟨u,hu,hru⟩:=hrd.2 j x hx
      rw [hv]
      have:v.cells[j]?=some u:=by simpa using hu
      simp only [Option.bind_some,this,Option.getD_some]
      exact hru.mono hS hk
    · cases h
      have hlt:i * sz+j < rows.length * sz:=by
        have:(i+1) * sz≤rows.length * sz:=Nat.mul_le_mul_right _ hi
        rw [Nat.add_mul] at this;omega
      refine ⟨.inr ⟨rfl,by simpa using hlt⟩,?_⟩
      have hvi:vals[i]?=some (vals[i]'(by omega)):=List.getElem?_eq_getElem _
      have hsz2:=hall _ (List.mem_of_getElem? hvi)
      simp only [Nat.zero_add]
      rw [cell_of_row _ _ _ _ _ _ (heap_alloc_new w _)]
      have e:(vals.flatMap fun v=>v.cells.toList).toArray[i * sz+j]?=(vals.flatMap fun v=>v.cells.toList)[i * sz+j]?:=by simp
      rw [e,Great.flat_get hsz vals hall]
      rw [Nat.mul_comm i sz,Nat.mul_add_div hsz,Nat.div_eq_of_lt hj,Nat.add_zero,Nat.mul_add_mod,Nat.mod_eq_of_lt hj,hvi]
      simp only [Option.bind_some]
      rw [Array.getElem?_eq_getElem (by omega)]
      rfl
theorem zfW (hT:∀ t i,X.Ty t=some i→TyOK X.P t i) {t:TypeId} {n:Nat} {ps:Array (Nat × Operand)} {r:Out} (ho:o.op=.buildSlice t n ps) (h:aop X o fr σ=some r):Sound X o fr σ r:=by
  unfold aop at h
  simp only [ho] at h
  split at h
  · rename_i k i hk hi
    split at h
    · rename_i e he
      split at h
      · rename_i rows hrows
        split at h
        · rename_i hc
          injection h with h;subst h
          intro γ T S w a hr
          obtain ⟨inf,d,h1,h2,h3,h4,h5,h6,h7,h8,h9,h10⟩:=(hT t i hi).get
          have hek:=hT _ e he
          obtain ⟨inf',d',h1',h2',h3',h4',h5',_⟩:=hek.get
          rw [hc.2.2] at h10
          have hrs:=hr.upd (γ':=γ) (T':=T) k (fun _ _=>rfl) (fun _ _=>rfl)
          obtain ⟨vals,g1,g2,g3,g4⟩:=zel hrs 0 ps.toList hrows
          cases d with
          | slice el =>
            simp only [elemOfD] at h7
            subst h7
            obtain ⟨S',r1,r2,_⟩:=hr.fresh k _ hek.pos g1 g3 g4 (by have:=hek.pos;have:=hc.2.1;have:=hc.1;have:=Nat.le_mul_of_pos_right n hek.pos;omega)
            refine ⟨γ,_,S',_,_,.inl ?_,r1,r2⟩
            have hrun:(Instr.buildSlice t n (ps.map fun p=>(p.1,a.eval p.2))).run X.P w=.ok (.slice (some ⟨w.heap.size,0,none⟩) rows.length rows.length) (w.alloc (.cells (vals.flatMap fun v=>v.cells.toList).toArray i.elem)):=by
              by_cases hz:n=0
              · subst hz
                have hr0:rows=[]:=List.eq_nil_of_length_eq_zero hc.1.symm
                subst hr0
                have hv0:vals=[]:=List.eq_nil_of_length_eq_zero g1
                subst hv0
                have hp0:ps = #[]:=by
                  have e2:ps.toList=[]:=by simpa using g2
                  simpa using e2
                subst hp0
                simp [Instr.buildSlice,run_underlying h2,zaP h1',newRow,Instr.fill,show Array.range 0 = #[] from rfl]
              · rw [← hc.1]
                refine run_buildSlice w t i.elem n _ _ inf' _ h2 h1' h5' (by rw [h3'];have:=hc.2.1;omega) (by rw [h3'];have:=Nat.mul_pos (Nat.pos_of_ne_zero hz) hek.pos;omega) ?_
                rw [h3',Array.toList_map,g2]
                exact Great.fill_whole hek.pos vals _ g3 (by simp [g1,← hc.1])
            simp only [execOp,ho,Sem.run_bind,hrun,Result.andThen_ok,Sem.run_pure]
          | _=>simp [tagOf] at h10
        · cases h
      · cases h
    · cases h
  · cases h
theorem zc9 (hr:Rel X γ T S w fr σ a) {x:Option Operand} {n:Option Int} (h:optI fr x=some n):(x=none∧n=none)∨ ∃ y m k,x=some y∧n=some m∧a.eval y=.int k m:=by
  cases x with
  | none=>simp only [optI,Option.some.injEq] at h;exact .inl ⟨rfl,h.symm⟩
  | some y =>
    simp only [optI,Option.map_eq_some_iff] at h
    obtain ⟨m,hm,rfl⟩:=h
    obtain ⟨v,h1,h2⟩:=Option.bind_eq_some_iff.1 hm
    obtain ⟨k,hk⟩:=zcd h2 (zae hr h1)
    exact .inr ⟨y,m,k,rfl,rfl,hk⟩
theorem RD.slice {rows:List (List D)} {A:Option Addr} {n c l h sz:Nat} (hr:RD S w (.sl rows) (.slice A n c)) (hl:l≤h) (hh:h≤rows.length) (hsz:rows.all (fun q=>Nat.beq q.length sz)=true) :
    RD S w (.sl ((rows.take h).drop l)) (.slice (if c=l then A else A.map (·.add (l * sz))) (h - l) (c - l)):=by
  cases hr with
  | sl _ _ _ sz' vs cap lim nil row val spot mem =>
    have hlen:((rows.take h).drop l).length=h - l:=by rw [List.length_drop,List.length_take];omega
    have hget:∀ (i:Nat) (q:List D),((rows.take h).drop l)[i]?=some q→rows[l+i]?=some q:=by
      intro i q hq
      rw [List.getElem?_drop,List.getElem?_take] at hq
      split at hq
      · exact hq
      · cases hq
    have hs:∀ (i:Nat),i < rows.length→sz'=sz:=by
      intro i hi
      have h1:=row i _ (List.getElem?_eq_getElem hi)
      have h2:=List.all_eq_true.1 hsz rows[i] (List.getElem_mem hi)
      rw [← h1]
      exact Nat.eq_of_beq_eq_true h2
    by_cases he:l < h
    · have hcl:¬ c=l:=by omega
      rw [if_neg hcl]
      cases A with
      | none=>have:=nil rfl;subst this;simp at hh;omega
      | some ad =>
        have hsp:=spot ad rfl (by omega)
        obtain ⟨b,o,sp⟩:=ad
        simp only at hsp
        subst hsp
        have e:=hs 0 (by omega)
        subst e
        rw [← hlen]
        refine .sl _ _ _ sz' (fun i j=>vs (l+i) j) (by omega) (by omega) (fun h=>by cases h) (fun i q hq=>row _ _ (hget i q hq)) (fun i q hq j x hx=>val _ _ (hget i q hq) j x hx) (fun ad had _=>?_) fun ad had i hi j hj=>?_
        · simp only [Option.map_some,Option.some.injEq,Addr.add_lit] at had;subst had;rfl
        · simp only [Option.map_some,Option.some.injEq,Addr.add_lit] at had
          subst had
          have:=mem _ rfl (l+i) (by omega) j hj
          simp only at this ⊢
          rw [Nat.add_mul] at this
          rw [show o+l * sz'+(i * sz'+j)=o+(l * sz'+i * sz'+j) by omega]
          exact this
    · have h0:(rows.take h).drop l=[]:=List.eq_nil_of_length_eq_zero (by omega)
      have h1:h - l=0:=by omega
      rw [h0,h1]
      exact .sl [] _ (c - l) 0 (fun _ _=>undef) (Nat.zero_le _) (Nat.zero_le _) (fun _=>rfl) (fun i q hq=>by simp at hq) (fun i q hq=>by simp at hq) (fun ad _ h=>by simp at h) (fun ad _ i hi=>by simp at hi)
theorem zc6 (P:Program) (w:World) (len cap:Nat) (lo hi:Option Value) (l h:Int) (hlo:(lo=none∧l=0)∨ ∃ k,lo=some (.int k l)) (hhi:(hi=none∧h=len)∨ ∃ k,hi=some (.int k h))
    (h0:0≤l) (h1:l≤h) (h2:h≤len) (hc:len≤cap) (b:Bool):(Instr.sliceBounds b len cap lo hi none).run P w=.ok (l.toNat,h.toNat,cap) w:=by
  have hb:∀ (k:IntKind) (i:Int) (y:Nat) (code:BoundsCode),0≤i→i≤y→(Instr.sliceBound (.int k i) y code).run P w=.ok i.toNat w:=fun k i y code a1 a2=>run_sliceBound w k i y code a1 a2
  have eh:((h.toNat:Nat):Int)=h:=Int.toNat_of_nonneg (by omega)
  rcases hlo with ⟨rfl,rfl⟩ | ⟨kl,rfl⟩<;>rcases hhi with ⟨rfl,rfl⟩ | ⟨kh,rfl⟩
  · simp [Instr.sliceBounds]
  · simp only [Instr.sliceBounds,Sem.run_bind,Sem.run_pure,Result.andThen_ok,hb kh h cap _ (by omega) (by omega)];rfl
  · simp only [Instr.sliceBounds,Sem.run_bind,Sem.run_pure,Result.andThen_ok,hb kl l len _ h0 (by omega)];simp
  · simp only [Instr.sliceBounds,Sem.run_bind,Sem.run_pure,Result.andThen_ok,hb kh h cap _ (by omega) (by omega),hb kl l h.toNat _ h0 (by omega)]
theorem zfB (hT:∀ t i,X.Ty t=some i→TyOK X.P t i) {t:TypeId} {x:Operand} {lo hi:Option Operand} {r:Out} (ho:o.op=.slice t x lo hi none) (h:aop X o fr σ=some r):PureS X o fr σ r:=by
  unfold aop at h
  simp only [ho] at h
  split at h
  · rename_i i l hh v hi' hl hhi hx
    have bnd:∀ {γ T S w a},Rel X γ T S w fr σ a→ ∀ (len:Nat),((lo.map a.eval=none∧l.getD 0=0)∨ ∃ k,lo.map a.eval=some (.int k (l.getD 0)))∧((hi.map a.eval=none∧hh.getD len=len)∨ ∃ k,hi.map a.eval=some (.int k (hh.getD len))):=by
      intro γ T S w a hr len
      constructor
      · rcases zc9 hr hl with ⟨rfl,rfl⟩ | ⟨y,m,k,rfl,rfl,e⟩
        · exact .inl ⟨rfl,rfl⟩
        · exact .inr ⟨k,by simp [e]⟩
      · rcases zc9 hr hhi with ⟨rfl,rfl⟩ | ⟨y,m,k,rfl,rfl,e⟩
        · exact .inl ⟨rfl,rfl⟩
        · exact .inr ⟨k,by simp [e]⟩
    obtain ⟨inf,d,h1,h2,h3,h4,h5,h6,h7,h8,h9,h10⟩:=(hT t i hi').get
    split at h
    · rename_i s hs
      split at h
      · rename_i hc
        injection h with h;subst h
        refine zaA fun γ T S w a hr=>?_
        have e1:=zeb hs (zae hr hx)
        rw [hc.1] at h10
        cases d with
        | string =>
          obtain ⟨b1,b2⟩:=bnd hr s.size
          have:=zc6 X.P w s.size s.size _ _ _ _ b1 b2 hc.2.1 hc.2.2.1 hc.2.2.2 (Nat.le_refl _) false
          refine ⟨_,?_,.one (.v _ rfl)⟩
          simp only [execOp,ho,e1,Instr.sliceAt,Instr.slice,Sem.run_bind,run_underlying h2,Result.andThen_ok,this,Sem.run_pure,Option.map_none,Option.isSome_none,Bool.false_eq_true,if_false]
        | _=>simp [tagOf] at h10
      · cases h
    · split at h
      · rename_i rows hrows
        split at h
        · rename_i e he
          split at h
          · rename_i hc
            injection h with h;subst h
            refine zaA fun γ T S w a hr=>?_
            have hrd:=zaR hrows (zae hr hx)
            obtain ⟨inf',d',h1',h2',h3',_⟩:=(hT _ e he).get
            rw [hc.1] at h10
            cases d with
            | slice el =>
              simp only [elemOfD] at h7
              subst h7
              generalize hev:a.eval x=xv' at hrd
              have hcap:∀ A n c,xv'=.slice A n c→n=rows.length∧rows.length≤c:=by
                intro A n c e;subst e;cases hrd with|sl=>exact ⟨rfl,by assumption⟩
              cases xv' with
              | slice A n c =>
                obtain ⟨hn,hcp⟩:=hcap A n c rfl
                subst hn
                obtain ⟨b1,b2⟩:=bnd hr rows.length
                have:=zc6 X.P w rows.length c _ _ _ _ b1 b2 hc.2.1 hc.2.2.1 hc.2.2.2.1 hcp true
                refine ⟨_,?_,.one (hrd.slice (l:=(l.getD 0).toNat) (h:=(hh.getD rows.length).toNat) (by omega) (by omega) hc.2.2.2.2)⟩
                have hsz:(sizeOf i.elem).run X.P w=.ok e.size w:=by rw [← h3'];exact zaP h1' w
                simp only [execOp,ho,hev,Instr.sliceAt,Instr.slice,Sem.run_bind,run_underlying h2,Result.andThen_ok,this,hsz,Sem.run_pure,Option.map_none]
              | _=>cases hrd
            | _=>simp [tagOf] at h10
          · cases h
        · cases h
      · cases h
  · cases h
theorem zeC {t:Operand} {i:Nat} {r:Out} (ho:o.op=.extract t i) (h:aop X o fr σ=some r):PureS X o fr σ r:=by
  unfold aop at h
  simp only [ho] at h
  split at h
  · rename_i l ht
    split at h
    · rename_i x hx
      injection h with h;subst h
      refine zaA fun γ T S w a hr=>?_
      have hv:=zae hr ht
      generalize he:a.eval t=v at hv
      cases hv with
      | tup _ us len val =>
        have hlt:i < us.length:=by rw [len];exact (List.getElem?_eq_some_iff.1 hx).1
        have hu:us[i]?=some us[i]:=List.getElem?_eq_getElem hlt
        refine ⟨us[i],?_,val i _ _ hx hu⟩
        have:us.toArray[i]?=some us[i]:=by simp
        simp only [execOp,ho,he,Instr.extract,this,Sem.run_bind,Sem.run_pure,Result.andThen_ok]
    · cases h
  · cases h
theorem zgu (hr:Rel X γ T S w fr σ a):∀ (l:List Operand) {ks:List Nat},capK fr l=some ks→l.map a.eval=ks.map fun k=>Value.pointer (some ⟨γ k,0,none⟩)
  | [],ks,h=>by simp only [capK,Option.some.injEq] at h;subst h;rfl
  | x :: l,ks,h=>by
    simp only [capK] at h
    split at h
    · rename_i k hk
      rw [Option.map_eq_some_iff] at h
      obtain ⟨ks',h1,rfl⟩:=h
      have hv:=zae hr hk
      cases hv with
      | one hv=>rw [List.map_cons,zgu hr l h1,List.map_cons,show a.eval x=_ from hv]
    · cases h
theorem zdR {fn:Fn} {first caps:Array Operand} {r:Out} (ho:o.op=.makeFunc fn first caps) (h:aop X o fr σ=some r):PureS X o fr σ r:=by
  unfold aop at h
  simp only [ho] at h
  split at h
  · rename_i f hf
    rw [Option.map_eq_some_iff] at h
    obtain ⟨ks,hk,rfl⟩:=h
    refine zaA fun γ T S w a hr=>⟨_,?_,.one rfl⟩
    have e:caps.map a.eval=(ks.map fun k=>Value.pointer (some ⟨γ k,0,none⟩)).toArray:=by
      rw [← zgu hr _ hk,← Array.toList_map,Array.toArray_toList]
    have e2:first = #[]:=by simpa using hf
    subst e2
    simp only [execOp,ho,Instr.makeFunc,Sem.run_bind,Sem.run_pure,Result.andThen_ok,e,Array.map_empty]
  · cases h
theorem zml (hT:∀ t i,X.Ty t=some i→TyOK X.P t i) {t:TypeId} {x:Operand} {r:Out} (ho:o.op=.call { callee:=.builtin .len,args := #[x],argTypes := #[t] }) (h:alen X t x fr σ=some r):PureS X o fr σ r:=by
  unfold alen at h
  split at h
  · rename_i i v hi hx
    obtain ⟨inf,d,h1,h2,h3,h4,h5,h6,h7,h8,h9,h10⟩:=(hT t i hi).get
    split at h
    · rename_i s hs
      split at h
      · rename_i hc
        injection h with h;subst h
        refine zaA fun γ T S w a hr=>?_
        have e1:=zeb hs (zae hr hx)
        rw [hc] at h10
        cases d with
        | string=>exact ⟨_,by simp [execOp,ho,resolve,invoke,builtin,e1,Builtin.len_,run_underlying h2,goInt],.one (.v _ rfl)⟩
        | _=>simp [tagOf] at h10
      · cases h
    · split at h
      · rename_i rows hrows
        split at h
        · rename_i hc
          injection h with h;subst h
          refine zaA fun γ T S w a hr=>?_
          have hrd:=zaR hrows (zae hr hx)
          rw [hc] at h10
          generalize hev:a.eval x=xv' at hrd
          cases d with
          | slice el=>cases hrd with|sl _ A c=>exact ⟨_,by simp [execOp,ho,resolve,invoke,builtin,hev,Builtin.len_,run_underlying h2,goInt],.one (.v _ rfl)⟩
          | _=>simp [tagOf] at h10
        · cases h
      · cases h
  · cases h
theorem zlr {ts:Array TypeId} {x y:Operand} {r:Out} (ho:o.op=.call { callee:=.builtin .min,args := #[x,y],argTypes:=ts }) (h:amin x y fr σ=some r):PureS X o fr σ r:=by
  unfold amin at h
  split at h
  · rename_i k n k' m hx hy
    injection h with h;subst h
    refine zaA fun γ T S w a hr=>?_
    have e1:=zaw (zae hr hx)
    have e2:=zaw (zae hr hy)
    exact ⟨_,by simp [execOp,ho,resolve,invoke,builtin,e1,e2,run_min_int2],.one (.v _ rfl)⟩
  · cases h
theorem zl6 {ts:Array TypeId} {x y:Operand} {r:Out} (ho:o.op=.call { callee:=.builtin .max,args := #[x,y],argTypes:=ts }) (h:amax x y fr σ=some r):PureS X o fr σ r:=by
  unfold amax at h
  split at h
  · rename_i k n k' m hx hy
    injection h with h;subst h
    refine zaA fun γ T S w a hr=>?_
    have e1:=zaw (zae hr hx)
    have e2:=zaw (zae hr hy)
    exact ⟨_,by simp [execOp,ho,resolve,invoke,builtin,e1,e2,run_max_int2],.one (.v _ rfl)⟩
  · cases h
theorem zf4 (hT:∀ t i,X.Ty t=some i→TyOK X.P t i) {c:Call} {r:Out} (ho:o.op=.call c) (h:aop X o fr σ=some r):PureS X o fr σ r:=by
  unfold aop at h
  simp only [ho] at h
  unfold acall at h
  obtain ⟨callee,args,tys⟩:=c
  obtain ⟨args⟩:=args
  obtain ⟨tys⟩:=tys
  simp only at h
  split at h
  · split at h
    · exact zml hT ho h
    · exact zlr ho h
    · exact zl6 ho h
    · cases h
  · cases h
theorem zlK (hT:∀ t i,X.Ty t=some i→TyOK X.P t i) {r:Out} (h:aop X o fr σ=some r):Sound X o fr σ r:=by
  cases ho:o.op with
  | move x=>exact (zf8 ho h).sound
  | assign x=>exact (zeJ ho h).sound
  | pick c a b=>exact (zgc ho h).sound
  | alloc t=>exact zi2 hT ho h
  | box t x=>exact zmo ho h
  | load t p=>exact (zf6 hT ho h).sound
  | store t p x=>exact zji hT ho h
  | fieldAddr t p f=>exact (zfy hT ho h).sound
  | indexAddr t x i=>exact (zdx hT ho h).sound
  | index t x i=>exact (zft hT ho h).sound
  | binOp op t x y t'=>exact (zhq hT ho h).sound
  | unOp op t x=>exact (zh8 ho h).sound
  | convert s t x=>exact (zeB hT ho h).sound
  | build t ps=>exact (zfo hT ho h).sound
  | buildSlice t n ps=>exact zfW hT ho h
  | makeFunc fn first caps=>exact (zdR ho h).sound
  | slice t x lo hi mx =>
    cases mx with
    | none=>exact (zfB hT ho h).sound
    | some m=>simp [aop,ho] at h
  | extract t i=>exact (zeC ho h).sound
  | call c=>exact (zf4 hT ho h).sound
  | _=>simp [aop,ho] at h
theorem zc5 (k:Nat) (σ:Obs):(stripS k σ).length=σ.length:=by simp [stripS]
theorem zn1 (hT:∀ t i,X.Ty t=some i→TyOK X.P t i) {x:VV} (h:aop X o fr σ=some ⟨x,fr,σ⟩):∀ γ T S w a,Rel X γ T S w fr σ a→ ∃ v,(execOp a.eval o).run X.P w=.ok (.value v) w∧RV γ T S w x v:=by
  have key:PureS X o fr σ ⟨x,fr,σ⟩:=by
    have bad:∀ {k:Nat} {ob:Ob} {σ':Obs},σ'.length=σ.length→(k,ob) :: σ'=σ→False:=fun h1 h2=>by
      have:=congrArg List.length h2
      simp at this;omega
    cases ho:o.op with
    | move x=>exact zf8 ho h
    | assign x=>exact zeJ ho h
    | pick c a b=>exact zgc ho h
    | load t p=>exact zf6 hT ho h
    | fieldAddr t p f=>exact zfy hT ho h
    | indexAddr t x i=>exact zdx hT ho h
    | index t x i=>exact zft hT ho h
    | binOp op t x y t'=>exact zhq hT ho h
    | unOp op t x=>exact zh8 ho h
    | convert s t x=>exact zeB hT ho h
    | build t ps=>exact zfo hT ho h
    | makeFunc fn first caps=>exact zdR ho h
    | slice t x lo hi mx =>
      cases mx with
      | none=>exact zfB hT ho h
      | some m=>simp [aop,ho] at h
    | extract t i=>exact zeC ho h
    | call c=>exact zf4 hT ho h
    | alloc t =>
      simp only [aop,ho] at h
      split at h
      · split at h
        · simp only [newOb,Option.some.injEq,Out.mk.injEq] at h;exact (bad (zc5 _ _) h.2.2).elim
        · cases h
      · cases h
    | box t y =>
      simp only [aop,ho] at h
      split at h
      · split at h
        · split at h
          · simp only [newOb,Option.some.injEq,Out.mk.injEq] at h;exact (bad (zc5 _ _) h.2.2).elim
          · cases h
        · split at h
          · simp only [newOb,Option.some.injEq,Out.mk.injEq] at h;exact (bad (zc5 _ _) h.2.2).elim
          · cases h
        · cases h
      · cases h
    | store t p y =>
      simp only [aop,ho] at h
      split at h
      · split at h
        · split at h
          · split at h
            · simp only [Option.some.injEq,Out.mk.injEq] at h;exact (bad rfl h.2.2).elim
            · cases h
          · cases h
        · split at h
          · split at h
            · simp only [Option.some.injEq,Out.mk.injEq] at h;exact (bad rfl h.2.2).elim
            · cases h
          · cases h
        · split at h
          · split at h
            · simp only [Option.some.injEq,Out.mk.injEq] at h;exact (bad rfl h.2.2).elim
            · cases h
          · cases h
        · cases h
      · cases h
    | buildSlice t n ps =>
      simp only [aop,ho] at h
      split at h
      · split at h
        · split at h
          · split at h
            · simp only [Option.some.injEq,Out.mk.injEq] at h;exact (bad (zc5 _ _) h.2.2).elim
            · cases h
          · cases h
        · cases h
      · cases h
    | _=>simp [aop,ho] at h
  obtain ⟨y,hy,h2⟩:=key
  simp only [Out.mk.injEq,and_true] at hy
  subst hy
  exact h2
end
end Go.Proofs.YtiplihojmfbjkaaGreat
