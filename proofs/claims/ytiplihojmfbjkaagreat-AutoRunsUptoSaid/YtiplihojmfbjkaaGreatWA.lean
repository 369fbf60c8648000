/- Rows of a function's own that are written in place: made,read,written,cut,copied;and how they become slices that may be appended to. -/
import Derived.Test.YtiplihojmfbjkaaGreatWF
import Derived.Laws.CopyRow
import Derived.Laws.MakeOwn
namespace Go.Proofs.YtiplihojmfbjkaaGreat
open Go.RowKit
section
variable {X:Ctx} {γ γ':Nat→Nat} {T T':Nat→Value} {S S':Nat→Nat→Prop} {w w':World} {fr fr' fr1:Fr} {σ σ' σ1:Obs} {a:Act} {o:Oper} {sz:Nat} {rows r1 r2:List (List D)} {us u1 u2:List Value}
structure FlatR (S:Nat→Nat→Prop) (w:World) (sz:Nat) (rows:List (List D)) (us:List Value):Prop where
  len:us.length=rows.length * sz
  row:∀ (i:Nat) (q:List D),rows[i]?=some q→q.length=sz∧ ∀ (j:Nat) (x:D),q[j]?=some x→ ∃ u,us[i * sz+j]?=some u∧RD S w x u
theorem FlatR.mono (hS:∀ b o,S b o→S' b o) (hk:Kp S w w') (h:FlatR S w sz rows us):FlatR S' w' sz rows us :=
  ⟨h.len,fun i q hq=>⟨(h.row i q hq).1,fun j x hx=>let ⟨u,h1,h2⟩:=(h.row i q hq).2 j x hx;⟨u,h1,h2.mono hS hk⟩⟩⟩
theorem FlatR.app (h:FlatR S w sz r1 u1) (k:FlatR S w sz r2 u2):FlatR S w sz (r1++r2) (u1++u2) :=
  ⟨by rw [List.length_append,List.length_append,h.len,k.len,Nat.add_mul],fun i q hq=>by
    by_cases hi:i < r1.length
    · rw [List.getElem?_append_left hi] at hq
      refine ⟨(h.row i q hq).1,fun j x hx=>?_⟩
      obtain ⟨u,g1,g2⟩:=(h.row i q hq).2 j x hx
      exact ⟨u,by rw [List.getElem?_append_left (List.getElem?_eq_some_iff.1 g1).1];exact g1,g2⟩
    · rw [List.getElem?_append_right (by omega)] at hq
      refine ⟨(k.row _ q hq).1,fun j x hx=>?_⟩
      obtain ⟨u,g1,g2⟩:=(k.row _ q hq).2 j x hx
      have e:i * sz+j - u1.length=(i - r1.length) * sz+j:=by
        rw [h.len,Nat.sub_mul]
        have:r1.length * sz≤i * sz:=Nat.mul_le_mul_right _ (by omega)
        omega
      have hle:u1.length≤i * sz+j:=by
        rw [h.len]
        have:r1.length * sz≤i * sz:=Nat.mul_le_mul_right _ (by omega)
        omega
      exact ⟨u,by rw [List.getElem?_append_right hle,e];exact g1,g2⟩⟩
theorem FlatR.take (h:FlatR S w sz rows us) (n:Nat):FlatR S w sz (rows.take n) (us.take (n * sz)) :=
  ⟨by rw [List.length_take,List.length_take,h.len,Nat.mul_min_mul_right],fun i q hq=>by
    rw [List.getElem?_take] at hq
    split at hq
    · rename_i hi
      refine ⟨(h.row i q hq).1,fun j x hx=>?_⟩
      obtain ⟨u,g1,g2⟩:=(h.row i q hq).2 j x hx
      have hj:j < sz:=by have:=(List.getElem?_eq_some_iff.1 hx).1;rwa [(h.row i q hq).1] at this
      have:(i+1) * sz≤n * sz:=Nat.mul_le_mul_right _ hi
      rw [Nat.add_mul] at this
      exact ⟨u,by rw [List.getElem?_take,if_pos (by omega)];exact g1,g2⟩
    · cases hq⟩
theorem FlatR.drop (h:FlatR S w sz rows us) (n:Nat):FlatR S w sz (rows.drop n) (us.drop (n * sz)) :=
  ⟨by rw [List.length_drop,List.length_drop,h.len,Nat.sub_mul],fun i q hq=>by
    rw [List.getElem?_drop] at hq
    refine ⟨(h.row _ q hq).1,fun j x hx=>?_⟩
    obtain ⟨u,g1,g2⟩:=(h.row _ q hq).2 j x hx
    exact ⟨u,by rw [List.getElem?_drop,← Nat.add_assoc,← Nat.add_mul];exact g1,g2⟩⟩
theorem FlatR.all1 (h:FlatR S w sz rows us):∀ u∈us,u.oneCell'=true:=by
  intro u hu
  obtain ⟨k,hk,rfl⟩:=List.mem_iff_getElem.1 hu
  have hlt:k < rows.length * sz:=by rw [← h.len];exact hk
  have hsz:0 < sz:=by
    rcases Nat.eq_zero_or_pos sz with h0|h0
    · subst h0;simp at hlt
    · exact h0
  have hi:k / sz < rows.length:=(Nat.div_lt_iff_lt_mul hsz).2 hlt
  obtain ⟨g1,g2⟩:=h.row _ _ (List.getElem?_eq_getElem hi)
  obtain ⟨u,g3,g4⟩:=g2 (k % sz) _ (List.getElem?_eq_getElem (by rw [g1];exact Nat.mod_lt _ hsz))
  rw [Nat.mul_comm,Nat.div_add_mod,List.getElem?_eq_getElem hk] at g3
  injection g3 with g3
  rw [g3];exact g4.one
theorem FlatR.rep {q:List D} {vs:List Value} (h:RDL S w q vs) (hq:q.length=sz):∀ n:Nat, ∀ us:List Value,us.length=n * sz→(∀ i j,i < n→j < sz→us[i * sz+j]?=vs[j]?)→FlatR S w sz (List.replicate n q) us :=
  fun n us hl hu=>⟨by rw [hl,List.length_replicate],fun i p hp=>by
    rw [List.getElem?_replicate] at hp
    split at hp
    · rename_i hi
      injection hp with hp;subst hp
      refine ⟨hq,fun j x hx=>?_⟩
      obtain ⟨u,g1,g2⟩:=h.2 j x hx
      exact ⟨u,by rw [hu i j hi (by rw [← hq];exact (List.getElem?_eq_some_iff.1 hx).1)];exact g1,g2⟩
    · cases hp⟩
theorem RD.flat {v:Value} (h:RD S w (.sl rows) v) (hs:sized sz rows=true):∃ (A:Option Addr) (c:Nat) (us:List Value),v=.slice A rows.length c∧rows.length≤c∧(A=none→rows=[])∧FlatR S w sz rows us∧ ∀ a,A=some a→ ∀ (j:Nat) (u:Value),us[j]?=some u→w.cell? (a.add j)=some u:=by
  obtain ⟨A,c,vs,rfl,hc,hnil,hval,hspot,hmem⟩:=h.rows hs
  refine ⟨A,c,flatV rows.length sz vs,rfl,hc,hnil,⟨zbM _ _ _,fun i q hq=>⟨zbc hs hq,fun j x hx=>?_⟩⟩,fun ad ha j u hu=>?_⟩
  · have hi:=(List.getElem?_eq_some_iff.1 hq).1
    have hj:j < sz:=by have:=(List.getElem?_eq_some_iff.1 hx).1;rwa [zbc hs hq] at this
    exact ⟨_,zdu vs hi hj,hval i q hq j x hx⟩
  · obtain ⟨i,j',hi,hj,rfl,rfl⟩:=zcm hu
    have hsp:=hspot ad ha (by omega)
    obtain ⟨b,off,sp⟩:=ad
    simp only at hsp
    subst hsp
    rw [Addr.add_lit]
    exact (hmem _ ha i hi j' hj).2
theorem zdN {k:Nat} {e:TypeId}:RO X γ T S w k (.arr e sz rows)↔∃ us:List Value,w.heap[γ k]?=some (.cells us.toArray e (0,0))∧FlatR S w sz rows us∧(∀ o,¬ S (γ k) o)∧¬ X.N (γ k)∧ ∀ b,X.pin k=some b→γ k=b :=
  ⟨fun ⟨us,h1,h2,h3,h4,h5⟩=>⟨us,h1,⟨h2,h3⟩,h4,h5⟩,fun ⟨us,h1,⟨h2,h3⟩,h4,h5⟩=>⟨us,h1,h2,h3,h4,h5⟩⟩
def winR (rows:List (List D)) (lo n:Nat):List (List D):=(rows.drop lo).take n
theorem zlu {k lo n c:Nat} {e:TypeId} (h1:w.heap[γ k]?=some (.cells us.toArray e (0,0))) (h2:FlatR S w sz rows us):FlatR S w sz (winR rows lo n) ((us.drop (lo * sz)).take (n * sz))∧ ∀ (j:Nat) (u:Value),((us.drop (lo * sz)).take (n * sz))[j]?=some u→w.cell? ((⟨γ k,lo * sz,none⟩:Addr).add j)=some u:=by
  have _:=c
  refine ⟨(h2.drop lo).take n,fun j u hu=>?_⟩
  rw [Addr.add_lit,cell_of_row w _ _ _ _ _ h1]
  rw [List.getElem?_take] at hu
  split at hu
  · rw [List.getElem?_drop] at hu;simpa using hu
  · cases hu
theorem zjg {P:Program} (w:World) (dT sT ty elem:TypeId) (g o dLen dCap:Nat) (ad:Addr) (sLen sCap:Nat) (cur:Array Value) (t:TypeId) (cs:List Value) (i:TypeInfo)
    (hu:P.underlying dT=some (.slice elem)) (hq:P.info? elem=some i)
    (hg:w.heap[g]?=some (.cells cur t (0,0))) (hn:cs.length=Nat.min sLen dLen * i.size)
    (hsrc:∀ (j:Nat) (v:Value),cs[j]?=some v→w.cell? (ad.add j)=some v) (hfit:o+cs.length≤cur.size) (h1:∀ v∈cs,v.oneCell'=true) :
    (Builtin.copy_ #[dT,sT] ty #[.slice (some ⟨g,o,none⟩) dLen dCap,.slice (some ad) sLen sCap]).run P w =
      .ok (goInt (Nat.min sLen dLen)) (w.setRow g (cur.toList.take o++cs++cur.toList.drop (o+cs.length)).toArray):=by
  have hl:=run_loadCells_list (P:=P) w ad cs hsrc
  have hst:=run_storeCells_at P g o t cs 0 cur w hg (by simpa using hfit) h1
  simp [Builtin.copy_,run_underlying hu,Builtin.lenOf,Builtin.firstCells,sizeOf,typeInfo,hq,← hn,hl,hst]
theorem zcc (w:World) (g:Nat) (cs:Array Value):OnlyAt w (w.setRow g cs) g:=⟨rfl,rfl,rfl,by simp,fun b hb=>setRow_other w _ _ _ hb⟩
theorem zhr {k:Nat} {e:TypeId} {lo m:Nat} {news:List (List D)} {cs:List Value} (ho:RO X γ T S w k (.arr e sz rows)) (hc:FlatR S w sz news cs) (hm:news.length=m) (hle:lo+m≤rows.length) :
    ∃ cur:Array Value,w.heap[γ k]?=some (.cells cur e (0,0))∧lo * sz+cs.length≤cur.size∧RO X γ T S (w.setRow (γ k) (cur.toList.take (lo * sz)++cs++cur.toList.drop (lo * sz+cs.length)).toArray) k (.arr e sz (rows.take lo++news++rows.drop (lo+m))):=by
  obtain ⟨us,h1,h2,h3,h4⟩:=zdN.1 ho
  have hkp:Kp S w (w.setRow (γ k) (us.take (lo * sz)++cs++us.drop (lo * sz+cs.length)).toArray):=.row _ h3
  refine ⟨us.toArray,h1,?_,zdN.2 ⟨us.take (lo * sz)++cs++us.drop (lo * sz+cs.length),?_,?_,h3,h4⟩⟩
  · rw [hc.len,hm,← Nat.add_mul]
    have:(lo+m) * sz≤rows.length * sz:=Nat.mul_le_mul_right _ hle
    simpa [h2.len] using this
  · exact setRow_heap w _ _ _ _ _ h1
  · rw [show us.toArray.toList=us from rfl]
    refine FlatR.mono (fun _ _ h=>h) hkp ?_
    refine ((h2.take lo).app hc).app ?_
    rw [hc.len,hm,← Nat.add_mul]
    exact h2.drop (lo+m)
variable {ops:Array Oper} {rest:List Oper} {Q:Fr→Obs→Prop} {d k n lo c m:Nat} {t el:TypeId} {i e:TyI} {xx yy ix:Operand}
theorem zhH {s x:Operand} {ats:Array TypeId} (ho:o.op=.call { callee:=.builtin .copy,args := #[s,x],argTypes:=ats }) {v:Value} (hr:(Builtin.copy_ ats o.type #[a.eval s,a.eval x]).run X.P w=.ok v w'):(execOp a.eval o).run X.P w=.ok (.value v) w':=by
  simp only [execOp,ho,resolve,invoke,builtin,Sem.run_bind,Sem.run_pure,Result.andThen_ok,List.map_toArray,List.map_cons,List.map_nil,hr]
theorem zm5 {z:Array Value} {n i j sz:Nat} (hz:z.size=sz) (hi:i < n) (hj:j < sz):(madeCells z (n * sz)).toList[i * sz+j]?=z.toList[j]?:=by
  have hlt:i * sz+j < n * sz:=by
    have:(i+1) * sz≤n * sz:=Nat.mul_le_mul_right _ hi
    rw [Nat.add_mul] at this;omega
  unfold madeCells
  rw [Array.toList_map,List.getElem?_map,Array.toList_range,List.getElem?_range hlt,Option.map_some,hz,Nat.add_comm,Nat.add_mul_mod_self_right,Nat.mod_eq_of_lt hj]
  have hj':j < z.size:=by rw [hz];exact hj
  simp [hj']
theorem zpi (hT:Good X) {lx cx':Operand} (hw:wantA ops o fr=some true) (hdst:o.dst=some d) (hd:Nat.blt d X.nt=true) (ho:o.op=.makeSlice t lx cx') (h1:(ev fr lx).bind intV=some (n:Int)) (h2:(ev fr cx').bind intV=some (n:Int)) (hi:X.Ty t=some i) (htag:i.tag=2) (he:X.Ty i.elem=some e) (hb:n * e.bytes≤281474976710656)
    (h:RL X ops rest ((d,.one (.win d 0 n n e.size)) :: stripF d fr) ((d,.arr i.elem e.size (List.replicate n (e.zero.map zc))) :: stripS d σ) Q):RL X ops (o :: rest) fr σ Q :=
  ⟨fun γ T S w a K hr hk=>wpList_step fun K' hK=>by
    rw [if_pos (zam hr hw)]
    obtain ⟨lv,hl1,hl2⟩:=Option.bind_eq_some_iff.1 h1
    obtain ⟨cv,hc1,hc2⟩:=Option.bind_eq_some_iff.1 h2
    obtain ⟨kl,hkl⟩:=zcd hl2 (zae hr hl1)
    obtain ⟨kc,hkc⟩:=zcd hc2 (zae hr hc1)
    obtain ⟨inf,d0,g1,g2,g3,g4,g5,g6,g7,g8,g9,g10⟩:=(hT t i hi).get
    have hek:=hT _ e he
    obtain ⟨inf',d',g1',g2',g3',g4',g5',_⟩:=hek.get
    rw [htag] at g10
    cases d0 with
    | slice el =>
      simp only [elemOfD] at g7
      subst g7
      have hbp:n≤281474976710656:=Nat.le_trans (Nat.le_mul_of_pos_right n hek.bpos) hb
      have hrun:=run_make (P:=X.P) w t i.elem inf' _ g2 g1' g5' kl kc n n (by omega) (Int.le_refl _) (by rw [g4',Int.mul_comm,← Int.natCast_mul];omega) (by omega)
      have hzc:(if e.agg=true then Value.agg e.zero.toArray else e.zero.headD undef).cells.toList=e.zero:=by
        by_cases hag:e.agg=true
        · rw [if_pos hag];rfl
        · rw [if_neg hag]
          have hs1:=hek.sca (by simpa using hag)
          have hzl:=hek.zlen
          rw [hs1] at hzl
          match hz:e.zero,hzl with
          | [z],_ =>
            have hone:z.oneCell'=true:=by have:=hek.z1;rw [hz] at this;simpa using this
            rw [List.headD_cons,cells1v hone]
      have hzs:(if e.agg=true then Value.agg e.zero.toArray else e.zero.headD undef).cells.size=e.size:=by
        rw [← Array.length_toList,hzc,hek.zlen]
      rw [Int.toNat_natCast,g3'] at hrun
      have hr2:=hr.alloc d ((madeCells (if e.agg=true then Value.agg e.zero.toArray else e.zero.headD undef).cells (n * e.size)).toList) i.elem (.arr i.elem e.size (List.replicate n (e.zero.map zc))) (fun γ' _ hγ=>zdN.2 ⟨_,by
        rw [hγ]
        exact heap_alloc_new w _,FlatR.rep (vs:=e.zero) (RDL.zcs hek.z1) (by rw [List.length_map,hek.zlen]) n _ (by rw [Array.length_toList,size_madeCells]) (fun i' j hi' hj=>by rw [zm5 hzs hi' hj,hzc]),fun o=>by rw [hγ];exact (za6 hr _ (Nat.le_refl _)).1 o,by rw [hγ];exact (za6 hr _ (Nat.le_refl _)).2,fun b hb=>(by rw [X.low d (by simpa [Nat.blt_eq] using hd)] at hb;cases hb)⟩) (fun γ' b hb'=>hb')
      have hexec:(execOp a.eval o).run X.P w=.ok (.value (.slice (some ⟨w.heap.size,0,none⟩) n n)) (w.alloc (.cells (madeCells (if e.agg=true then Value.agg e.zero.toArray else e.zero.headD undef).cells (n * e.size)) i.elem)):=by
        simp only [execOp,ho,hkl,hkc,Sem.run_bind,hrun,Result.andThen_ok,Sem.run_pure]
      unfold Oper.wp
      rw [hexec]
      refine hK _ _ (h.out (setK γ d w.heap.size) T S _ _ K ?_ hk)
      have:=hr2.put (dst:=some d) (x:=.one (.win d 0 n n e.size)) (v:=.slice (some ⟨w.heap.size,0,none⟩) n n) hd (.one (by simp only [RC,zaq,Nat.zero_mul]))
      rw [hdst]
      rw [zbv] at this
      simpa using this
    | _=>simp [tagOf] at g10⟩
theorem ziQ (hT:Good X) {dT sT ty:TypeId} {cap:Nat} {news:List (List D)} {v:Value} (hr:Rel X γ T S w fr σ a) (hk:look σ k=some (.arr el sz rows)) (hi:X.Ty dT=some i) (htag:i.tag=2) (hie:i.elem=el) (he:X.Ty el=some e) (hsz:e.size=sz)
    (hv:v=.slice (some ⟨γ k,lo * sz,none⟩) n cap) (hin:lo+n≤rows.length) {A:Option Addr} {sl sc:Nat} {cs:List Value} (hx:(A=none→news=[])∧FlatR S w sz news cs∧(∀ ad,A=some ad→ ∀ (j:Nat) (u:Value),cs[j]?=some u→w.cell? (ad.add j)=some u)) (hsl:sl=news.length) (hm:m=Nat.min sl n) :
    ∃ w',(Builtin.copy_ #[dT,sT] ty #[v,.slice A sl sc]).run X.P w=.ok (goInt m) w'∧OnlyAt w w' (γ k)∧RO X γ T S w' k (.arr el sz (rows.take lo++news.take m++rows.drop (lo+m))):=by
  obtain ⟨inf,d0,g1,g2,g3,g4,g5,g6,g7,g8,g9,g10⟩:=(hT dT i hi).get
  obtain ⟨inf',d',g1',g2',g3',g4',g5',_⟩:=(hT _ e he).get
  obtain ⟨hx1,hx2,hx3⟩:=hx
  have hmle:m≤sl∧m≤n:=by rw [hm];exact ⟨Nat.min_le_left _ _,Nat.min_le_right _ _⟩
  have hml:(news.take m).length=m:=by rw [List.length_take];omega
  rw [htag] at g10
  cases d0 with
  | slice el' =>
    simp only [elemOfD] at g7
    rw [hie] at g7
    obtain rfl:el=el':=g7.symm
    obtain ⟨cur,q1,q2,q3⟩:=zhr (lo:=lo) (m:=m) (hr.st.obj k _ hk) (hx2.take m) hml (by omega)
    have hcl:(cs.take (m * sz)).length=m * sz:=by rw [(hx2.take m).len,hml]
    cases A with
    | none =>
      have hn0:=hx1 rfl
      subst hn0
      have hm0:m=0:=by rw [List.length_nil] at hsl;omega
      subst hm0
      refine ⟨w,?_,⟨rfl,rfl,rfl,rfl,fun _ _=>rfl⟩,by simpa using hr.st.obj k _ hk⟩
      rw [hv,hsl]
      simp [Builtin.copy_,run_underlying g2,Builtin.lenOf,Builtin.firstCells,sizeOf,typeInfo,g1',storeCells]
    | some ad =>
      have hrun:=zjg (P:=X.P) w dT sT ty el (γ k) (lo * sz) n cap ad sl sc cur el (cs.take (m * sz)) inf' g2 g1' q1 (by rw [hcl,g3',hsz,hm]) (fun j u hu=>by
        rw [List.getElem?_take] at hu
        split at hu
        · exact hx3 ad rfl j u hu
        · cases hu) q2 (hx2.take m).all1
      rw [← hm] at hrun
      exact ⟨_,by rw [hv];exact hrun,zcc _ _ _,q3⟩
  | _=>simp [tagOf] at g10
def srcV (x:VV) (σ:Obs):Option (List (List D)) :=
  match x with
  | .one (.win k lo n _ sz)=>match look σ k with
    | some (.arr _ sz' rows)=>if Nat.beq sz sz'&&Nat.ble (lo+n) rows.length then some (winR rows lo n) else none
    | _=>none
  | x=>rowsV x
theorem zf9 (hr:Rel X γ T S w fr σ a) {x:VV} {news:List (List D)} (h:srcV x σ=some news) (hs:sized sz news=true) {v:Value} (hv:RV γ T S w x v) (hwin:∀ k lo n c sz',x=.one (.win k lo n c sz')→sz'=sz) :
    ∃ (A:Option Addr) (c:Nat) (cs:List Value),v=.slice A news.length c∧(A=none→news=[])∧FlatR S w sz news cs∧ ∀ ad,A=some ad→ ∀ (j:Nat) (u:Value),cs[j]?=some u→w.cell? (ad.add j)=some u:=by
  have data:rowsV x=some news→ ∃ (A:Option Addr) (c:Nat) (cs:List Value),v=.slice A news.length c∧(A=none→news=[])∧FlatR S w sz news cs∧ ∀ ad,A=some ad→ ∀ (j:Nat) (u:Value),cs[j]?=some u→w.cell? (ad.add j)=some u:=fun h=>by
    obtain ⟨A,c,us,e1,_,e2,e3,e4⟩:=(zaR h hv).flat hs
    exact ⟨A,c,us,e1,e2,e3,e4⟩
  unfold srcV at h
  split at h
  · rename_i k lo n c sz'
    split at h
    · rename_i e sz2 rows hk
      split at h
      · rename_i hc
        simp only [Bool.and_eq_true,Nat.beq_eq,Nat.ble_eq] at hc
        injection h with h;subst h
        have e1:=hwin _ _ _ _ _ rfl
        obtain ⟨c1,c2⟩:=hc
        subst e1;subst c1
        cases hv with
        | one hv =>
          obtain ⟨us,h1,h2,_,_⟩:=zdN.1 (hr.st.obj k _ hk)
          obtain ⟨f1,f2⟩:=zlu (lo:=lo) (n:=n) (c:=c) h1 h2
          have hl:(winR rows lo n).length=n:=by unfold winR;rw [List.length_take,List.length_drop];omega
          exact ⟨some ⟨γ k,lo * sz',none⟩,c,_,by rw [hl];exact hv,fun h=>(by cases h),f1,fun ad ha=>(by injection ha with ha;subst ha;exact f2)⟩
      · cases h
    · cases h
  · exact data h
theorem zqf (hT:Good X) {dT sT:TypeId} {cap:Nat} {news rows':List (List D)} {x:VV} (hw:wantA ops o fr=some true) (hdst:o.dst=some d) (hd:Nat.blt d X.nt=true) (ho:o.op=.call { callee:=.builtin .copy,args := #[xx,yy],argTypes := #[dT,sT] })
    (h1:ev fr xx=some (.one (.win k lo n cap sz))) (hk:look σ k=some (.arr el sz rows)) (h2:ev fr yy=some x) (hx:srcV x σ=some news) (hs:sized sz news=true) (hwin:∀ k lo n c sz',x=.one (.win k lo n c sz')→sz'=sz) (hi:X.Ty dT=some i) (htag:i.tag=2) (hie:i.elem=el) (he:X.Ty el=some e) (hsz:e.size=sz) (hin:lo+n≤rows.length) (hm:Nat.min news.length n=m)
    (hrows:rows.take lo++news.take m++rows.drop (lo+m)=rows') (h:RL X ops rest ((d,.one (.d (.v (.int .i64 (m:Int))))) :: fr) ((k,.arr el sz rows') :: σ) Q):RL X ops (o :: rest) fr σ Q :=
  ⟨fun γ T S w a K hr hkk=>wpList_step fun K' hK=>by
    rw [if_pos (zam hr hw)]
    have hv:=zae hr h1
    obtain ⟨A,c,cs,e1,e2,e3,e4⟩:=zf9 (sz:=sz) hr hx hs (zae hr h2) hwin
    cases hv with
    | one hv =>
      obtain ⟨w',r1,r2,r3⟩:=ziQ (sT:=sT) (ty:=o.type) (m:=m) hT hr hk hi htag hie he hsz hv hin (A:=A) (sc:=c) (cs:=cs) ⟨e2,e3,e4⟩ rfl hm.symm
      rw [hrows] at r3
      obtain ⟨q1,q2⟩:=hr.chg hk rfl rfl r2 r3
      unfold Oper.wp
      rw [zhH ho (by rw [e1];exact r1)]
      refine hK _ _ (h.out γ T S w' _ K ?_ hkk)
      have:=q1.put (dst:=some d) (x:=.one (.d (.v (.int .i64 (m:Int))))) (v:=goInt m) hd (.one (.v _ rfl))
      rw [hdst]
      exact this⟩
theorem zoJ (hT:Good X) (hw:wantA ops o fr=some true) (hdst:o.dst=some d) (hd:Nat.blt d X.nt=true) (ho:o.op=.call { callee:=.builtin .len,args := #[xx],argTypes := #[t] }) (h1:ev fr xx=some (.one (.win k lo n c sz))) (hi:X.Ty t=some i) (htag:i.tag=2)
    (h:RL X ops rest ((d,.one (.d (.v (.int .i64 (n:Int))))) :: fr) σ Q):RL X ops (o :: rest) fr σ Q :=
  ⟨fun γ T S w a K hr hk=>wpList_step fun K' hK=>by
    rw [if_pos (zam hr hw)]
    obtain ⟨inf,d0,g1,g2,g3,g4,g5,g6,g7,g8,g9,g10⟩:=(hT t i hi).get
    rw [htag] at g10
    have hv:=zae hr h1
    cases d0 with
    | slice el =>
      cases hv with
      | one hv =>
        have hev:a.eval xx=.slice (some ⟨γ k,lo * sz,none⟩) n c:=hv
        have hexec:(execOp a.eval o).run X.P w=.ok (.value (.int .i64 n)) w:=by simp [execOp,ho,resolve,invoke,builtin,hev,Builtin.len_,run_underlying g2,goInt]
        unfold Oper.wp
        rw [hexec]
        refine hK _ _ (h.out γ T S w _ K ?_ hk)
        rw [hdst]
        exact hr.put (dst:=some d) hd (.one (.v _ rfl))
    | _=>simp [tagOf] at g10⟩
def winS (k lo c sz l h:Nat):VV:=if c=l then .one (.win k lo (h - l) 0 sz) else .one (.win k (lo+l) (h - l) (c - l) sz)
theorem zma (hT:Good X) {lo' hi':Option Operand} {l h:Nat} (hr:Rel X γ T S w fr σ a) (ho:o.op=.slice t xx lo' hi' none) (h1:ev fr xx=some (.one (.win k lo n c sz))) (hl:optI fr lo'=some (if lo'.isSome then some (l:Int) else none)) (hh:optI fr hi'=some (if hi'.isSome then some (h:Int) else none)) (hl0:lo'=none→l=0) (hh0:hi'=none→h=n) (hi:X.Ty t=some i) (htag:i.tag=2) (he:X.Ty i.elem=some e) (hsz:e.size=sz) (hle:l≤h∧h≤n∧n≤c) :
    ∃ v,(execOp a.eval o).run X.P w=.ok (.value v) w∧RV γ T S w (winS k lo c sz l h) v:=by
  obtain ⟨inf,d0,g1,g2,g3,g4,g5,g6,g7,g8,g9,g10⟩:=(hT t i hi).get
  obtain ⟨inf',d',g1',g2',g3',g4',g5',_⟩:=(hT _ e he).get
  rw [htag] at g10
  have hv:=zae hr h1
  cases d0 with
  | slice el =>
    simp only [elemOfD] at g7
    subst g7
    cases hv with
    | one hv =>
      have hev:a.eval xx=.slice (some ⟨γ k,lo * sz,none⟩) n c:=hv
      have hb:=zc6 X.P w n c (lo'.map a.eval) (hi'.map a.eval) l h (by
        rcases zc9 hr hl with ⟨rfl,_⟩ | ⟨y,m,kk,rfl,e1,e2⟩
        · exact .inl ⟨rfl,by rw [hl0 rfl];rfl⟩
        · simp only [Option.isSome_some,if_true,Option.some.injEq] at e1
          exact .inr ⟨kk,by simp [e2,e1]⟩) (by
        rcases zc9 hr hh with ⟨rfl,_⟩ | ⟨y,m,kk,rfl,e1,e2⟩
        · exact .inl ⟨rfl,by rw [hh0 rfl]⟩
        · simp only [Option.isSome_some,if_true,Option.some.injEq] at e1
          exact .inr ⟨kk,by simp [e2,e1]⟩) (by omega) (by omega) (by omega) (by omega) true
      refine ⟨.slice (if c=l then some ⟨γ k,lo * sz,none⟩ else some ⟨γ k,lo * sz+l * sz,none⟩) (h - l) (c - l),?_,?_⟩
      · simp only [execOp,ho,Instr.sliceAt,run_underlying g2,Sem.run_bind,Result.andThen_ok,Option.map_none,Instr.slice,hev,hb,zaP g1',Sem.run_pure,Option.map_some,g3',hsz,Int.toNat_natCast,Addr.add_lit]
      · unfold winS
        split
        · rename_i ec
          exact .one (by simp only [RC,ec,Nat.sub_self])
        · exact .one (by simp only [RC,Nat.add_mul])
  | _=>simp [tagOf] at g10
variable {τ0 σB:Obs} {KK:List Cr} {C:Cons} {QD:Fr→Obs→Prop} {j:Nat}
theorem D_ws (hT:Good X) {lo' hi':Option Operand} {l h:Nat} {x:VV} (hdst:o.dst=some d) (hd:Nat.blt d X.nt=true) (hw:wantA ops o (restr ops o fr)=some true) (ho:o.op=.slice t xx lo' hi' none) (h1:ev (restr ops o fr) xx=some (.one (.win k lo n c sz))) (hl:optI (restr ops o fr) lo'=some (if lo'.isSome then some (l:Int) else none)) (hh:optI (restr ops o fr) hi'=some (if hi'.isSome then some (h:Int) else none)) (hl0:lo'=none→l=0) (hh0:hi'=none→h=n) (hi:X.Ty t=some i) (htag:i.tag=2) (he:X.Ty i.elem=some e) (hsz:e.size=sz) (hle:l≤h∧h≤n∧n≤c)
    (hx:winS k lo c sz l h=x) (hm:MenOk o KK x) (hq:DSeq X ops τ0 σB QD (j+1) KK C rest ((d,x) :: fr)):DSeq X ops τ0 σB QD j KK C (o :: rest) fr :=
  zbS hdst hd hm (.inr ⟨hw,fun γ T S w a hr=>by
    obtain ⟨v,e1,e2⟩:=zma hT hr ho h1 hl hh hl0 hh0 hi htag he hsz hle
    exact .inl ⟨v,w,e1,S,za3 S w,hx ▸ e2⟩⟩) hq
theorem D_cp (hT:Good X) {dT sT:TypeId} {cap:Nat} {news rows':List (List D)} {x:VV} (hdst:o.dst=some d) (hd:Nat.blt d X.nt=true) (hw:wantA ops o (restr ops o fr)=some true) (ho:o.op=.call { callee:=.builtin .copy,args := #[xx,yy],argTypes := #[dT,sT] })
    (h1:ev (restr ops o fr) xx=some (.one (.win k lo n cap sz))) (hkt:(k,Ob.arr el sz rows)∈τ0) (hkB:look σB k=none) (hkC:hasC C k=false) (h2:ev (restr ops o fr) yy=some x) (hx:srcV x [(k,.arr el sz rows)]=some news) (hs:sized sz news=true) (hwin:∀ k lo n c sz',x=.one (.win k lo n c sz')→sz'=sz) (hi:X.Ty dT=some i) (htag:i.tag=2) (hie:i.elem=el) (he:X.Ty el=some e) (hsz:e.size=sz) (hin:lo+n≤rows.length) (hm:Nat.min news.length n=m)
    (hrows:rows.take lo++news.take m++rows.drop (lo+m)=rows') (hmen:MenOk o KK (.one (.d (.v (.int .i64 (m:Int)))))) (h:DSeq X ops τ0 σB QD (j+1) KK ((k,some (.arr el sz rows')) :: C) rest ((d,.one (.d (.v (.int .i64 (m:Int))))) :: fr)):DSeq X ops τ0 σB QD j KK C (o :: rest) fr :=
  ⟨_,.chg k (.arr el sz rows) (.arr el sz rows'),⟨by rw [hdst];exact hd,hmen,⟨hw,rfl,rfl,fun _=>rfl,fun γ T S w a hr=>by
    have hv:=zae hr h1
    obtain ⟨A,c,cs,e1,e2,e3,e4⟩:=zf9 (sz:=sz) hr hx hs (zae hr h2) hwin
    cases hv with
    | one hv =>
      obtain ⟨w',r1,r2,r3⟩:=ziQ (sT:=sT) (ty:=o.type) (m:=m) hT hr (show look [(k,Ob.arr el sz rows)] k=some (Ob.arr el sz rows) by simp [look]) hi htag hie he hsz hv hin (A:=A) (sc:=c) (cs:=cs) ⟨e2,e3,e4⟩ rfl hm.symm
      rw [hrows] at r3
      exact .inl (.inl ⟨_,w',zhH ho (by rw [e1];exact r1),r2,r3,.one (.v _ rfl)⟩)⟩,fun _ _ hne=>absurd rfl hne,fun k e sz h=>(by cases h),fun k' ob ob' h=>by
        injection h with a1 a2 a3;subst a1;subst a2;subst a3;exact ⟨hkC,hkB,.inl hkt⟩⟩,by rw [hdst];exact h⟩
theorem Rel.arr_tok {cap:Nat} (hr:Rel X γ T S w fr σ a) (hk:look σ k=some (.arr el sz rows)) {v:Value} (hv:v=.slice (some ⟨γ k,0,none⟩) rows.length cap) (hcap:cap=rows.length) (hlim:rows.length≤281474976710656) :
    ∃ S',(∀ b o,S b o→S' b o)∧Rel X γ (setK T k v) S' w (stripF k fr) ((k,.tok el sz) :: stripS k σ) a∧RV γ (setK T k v) S' w (.one (.own k rows)) v:=by
  obtain ⟨us,h1,h2,h3,h4,_⟩:=zdN.1 (hr.st.obj k _ hk)
  have hrel:=hr
  obtain ⟨⟨keep,lt,nlt,set,mon,obj,dis⟩,hfr,hn,hd⟩:=hr
  have hS:∀ b o,S b o→S b o∨(b=γ k∧o < rows.length * sz):=fun b o hs=>.inl hs
  have hrd:RD (fun b o=>S b o∨(b=γ k∧o < rows.length * sz)) w (.sl rows) v:=by
    rw [hv,hcap]
    refine .sl rows _ _ sz (fun i j=>(us[i * sz+j]?).getD undef) (Nat.le_refl _) hlim (fun h=>by cases h) (fun i q hq=>(h2.row i q hq).1) (fun i q hq j x hx=>?_) (fun ad ha _=>by injection ha with ha;subst ha;rfl) fun ad ha i hi j hj=>?_
    · obtain ⟨u,g1,g2⟩:=(h2.row i q hq).2 j x hx
      rw [g1];exact g2.mono hS .refl
    · injection ha with ha;subst ha
      have hlt:i * sz+j < rows.length * sz:=by
        have:(i+1) * sz≤rows.length * sz:=Nat.mul_le_mul_right _ hi
        rw [Nat.add_mul] at this;omega
      refine ⟨.inr ⟨rfl,by simpa using hlt⟩,?_⟩
      simp only [Nat.zero_add]
      rw [cell_of_row w _ _ _ _ _ h1]
      have:i * sz+j < us.length:=by rw [h2.len];exact hlt
      simp [this]
  have hb:∀ g,v.ownBlock=some g→g=γ k:=fun g hg=>by rw [hv] at hg;simpa [Value.ownBlock] using hg.symm
  have hrel2:Rel X γ T (fun b o=>S b o∨(b=γ k∧o < rows.length * sz)) w fr ((k,.junk) :: σ) a:=by
    refine ⟨⟨keep,fun b o hs=>?_,nlt,fun b o hs=>?_,⟨fun b o hs=>.inl (mon.1 b o hs),mon.2⟩,fun j ob' hj=>?_,fun i j o o' hi hj hne b hb=>?_⟩,fun t x hx=>(hfr t x hx).mono hS .refl,hn,hd⟩
    · rcases hs with hs | ⟨rfl,_⟩
      · exact lt b o hs
      · exact za0 h1
    · rcases hs with hs | ⟨rfl,_⟩
      · exact set b o hs
      · exact .inr h4
    · rw [zap] at hj
      split at hj
      · injection hj with hj;subst hj;trivial
      · rename_i hne
        refine (obj j ob' hj).kept hS .refl fun b hb=>⟨rfl,fun i hi=>hi.elim id fun hi'=>?_⟩
        exact (dis k j _ ob' hk hj hne b hi'.1 hb).elim
    · rw [zap] at hi hj
      split at hi
      · injection hi with hi;subst hi;exact hb.elim
      · split at hj
        · injection hj with hj;subst hj;exact id
        · exact dis i j o o' hi hj hne b hb
  refine ⟨_,hS,?_,.one ⟨hrd,zaq _ _ _⟩⟩
  have g2:=hrel2.upd (γ':=γ) (T':=setK T k v) k (fun _ _=>rfl) (fun j hj=>zaz _ _ _ _ hj)
  have g3:=g2.add (k:=k) (ob:=.tok el sz) (fun o hl=>?_) ?_ fun b hfp k' o' hl hne hb'=>?_
  · exact g3.sub (fun _ _ h=>h) (fun j ob hj=>by
      by_cases hne:k=j
      · subst hne
        rw [zap,if_pos rfl] at hj ⊢
        exact hj
      · rw [zap,if_neg hne] at hj
        rw [zap,if_neg hne,zaN,zap,if_neg hne]
        exact hj)
  · rw [zaN,zap,if_pos rfl,if_pos rfl] at hl
    injection hl with hl;exact hl.symm
  · refine ⟨rows.length,us.take (rows.length * sz),⟨by rw [List.length_take,h2.len];exact Nat.min_self _,.inr ⟨γ k,cap,us.toArray,by rw [zaq,hv],Nat.zero_le _,h1,by omega,by unfold maxLen;omega,by simp [h2.len,hcap],by simp⟩⟩,fun g hg=>?_⟩
    rw [zaq] at hg
    have:=hb g hg
    subst this
    exact ⟨h4,fun o ho=>ho.elim (fun h=>(h3 o h).elim) (·.2)⟩
  · simp only [fp,zaq] at hfp
    have:=hb b hfp
    subst this
    rw [zaN,zap,if_neg (Ne.symm hne),zar,Option.map_eq_some_iff] at hl
    obtain ⟨o2,h5,h4'⟩:=hl
    rw [if_neg hne] at h4'
    subst h4'
    have h6:=fp.strip (γ:=γ) (T:=T) hne (fun _ _=>rfl) (fun j hj=>zaz _ _ _ _ hj) hb'
    exact dis k k' _ o2 hk h5 (Ne.symm hne) _ rfl h6
theorem zlQ {cd:Code} {QQ:Exit→Fr→Obs→Prop} (t k:Nat) (hl:look fr t=some (.one (.win k 0 n c sz))) (hk:look σ k=some (.arr el sz rows)) (hn:n=rows.length) (hc:c=rows.length) (hlim:rows.length≤281474976710656) (h:W X cd ((t,.one (.own k rows)) :: stripF k fr) ((k,.tok el sz) :: stripS k σ) QQ):W X cd fr σ QQ :=
  ⟨fun γ T S w a hr=>by
    have hv:=hr.fr t _ hl
    generalize hu:a.tmps.getD t undef=u at hv
    cases hv with
    | one hv =>
      have hv':u=.slice (some ⟨γ k,0,none⟩) n c:=by simpa only [RC,Nat.zero_mul] using hv
      obtain ⟨S',_,q1,q2⟩:=hr.arr_tok (v:=u) hk (by rw [hv',hn]) hc hlim
      refine h.out γ (setK T k u) S' w a ?_
      obtain ⟨st,hfr,hnt,hdf⟩:=q1
      refine ⟨st,fun t' y hy=>?_,hnt,hdf⟩
      rw [zap] at hy
      split at hy
      · rename_i e2
        injection hy with hy;subst hy;subst e2
        rw [hu];exact q2
      · exact hfr t' y hy⟩
end
end Go.Proofs.YtiplihojmfbjkaaGreat
