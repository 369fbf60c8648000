/- append,to a slice that is the function's own. -/
import Derived.Test.YtiplihojmfbjkaaGreatW7
namespace Go.Proofs.YtiplihojmfbjkaaGreat
open Go.RowKit
section
variable {X:Ctx} {γ γ':Nat→Nat} {T T':Nat→Value} {S S':Nat→Nat→Prop} {w w':World} {fr fr':Fr} {σ σ':Obs} {a:Act} {o:Oper}
def sized (sz:Nat) (rows:List (List D)):Bool:=rows.all fun q=>Nat.beq q.length sz
theorem zbc {sz:Nat} {rows:List (List D)} (h:sized sz rows=true) {i:Nat} {q:List D} (hq:rows[i]?=some q):q.length=sz :=
  Nat.eq_of_beq_eq_true (List.all_eq_true.1 h q (List.mem_of_getElem? hq))
theorem RD.rows {rows:List (List D)} {v:Value} {sz:Nat} (h:RD S w (.sl rows) v) (hs:sized sz rows=true) :
    ∃ (A:Option Addr) (c:Nat) (vs:Nat→Nat→Value),v=.slice A rows.length c∧rows.length≤c∧(A=none→rows=[])∧(∀ (i:Nat) (q:List D),rows[i]?=some q→ ∀ (j:Nat) (x:D),q[j]?=some x→RD S w x (vs i j))∧(∀ a,A=some a→0 < rows.length→a.spot=none)∧
      ∀ a,A=some a→ ∀ i,i < rows.length→ ∀ j,j < sz→S a.block (a.off+(i * sz+j))∧w.cell? ⟨a.block,a.off+(i * sz+j),none⟩=some (vs i j):=by
  cases h with
  | sl _ A c sz' vs cap lim nil row val spot mem =>
    refine ⟨A,c,vs,rfl,cap,nil,val,spot,fun a ha i hi j hj=>?_⟩
    have e:sz'=sz:=by
      have hq:=List.getElem?_eq_getElem hi
      rw [← row i _ hq];exact zbc hs hq
    subst e
    exact mem a ha i hi j hj
def flatV (m sz:Nat) (vs:Nat→Nat→Value):List Value:=(List.range (m * sz)).map fun k=>vs (k / sz) (k % sz)
theorem zbM (m sz:Nat) (vs:Nat→Nat→Value):(flatV m sz vs).length=m * sz:=by simp [flatV]
theorem zdu {m sz:Nat} (vs:Nat→Nat→Value) {i j:Nat} (hi:i < m) (hj:j < sz):(flatV m sz vs)[i * sz+j]?=some (vs i j):=by
  have hlt:i * sz+j < m * sz:=by
    have:(i+1) * sz≤m * sz:=Nat.mul_le_mul_right _ hi
    rw [Nat.add_mul] at this;omega
  have hsz:0 < sz:=by omega
  rw [flatV,List.getElem?_map,List.getElem?_range hlt,Option.map_some,Nat.mul_comm i sz,Nat.mul_add_div hsz,Nat.div_eq_of_lt hj,Nat.add_zero,Nat.mul_add_mod,Nat.mod_eq_of_lt hj]
theorem zcm {m sz k:Nat} {vs:Nat→Nat→Value} {u:Value} (h:(flatV m sz vs)[k]?=some u):∃ i j,i < m∧j < sz∧k=i * sz+j∧u=vs i j:=by
  have hlt:k < m * sz:=by have:=(List.getElem?_eq_some_iff.1 h).1;rwa [zbM] at this
  have hsz:0 < sz:=by
    rcases Nat.eq_zero_or_pos sz with h0|h0
    · subst h0;simp at hlt
    · exact h0
  rw [flatV,List.getElem?_map,List.getElem?_range hlt,Option.map_some,Option.some.injEq] at h
  exact ⟨k / sz,k % sz,(Nat.div_lt_iff_lt_mul hsz).2 hlt,Nat.mod_lt _ hsz,by rw [Nat.mul_comm];exact (Nat.div_add_mod k sz).symm,h.symm⟩
theorem zfv {P:Program} {t ty e:TypeId} {i:TypeInfo} {z:Value} {sz bytes:Nat} (ht:P.underlying t=some (.slice e)) (hi:P.info? e=some i) (hz:i.zero=some z)
    (hsize:i.size=sz) (hby:i.bytes=bytes) (hzs:z.cells.size=sz) (hpos:0 < sz) {v:Value} {rows news:List (List D)} (xs:List Value) (hown:w.ownsRow 0 e sz v rows.length xs) (hrd:RD S w (.sl rows) v) (hrs:sized sz rows=true)
    {xv:Value} (hx:RD S w (.sl news) xv) (hns:sized sz news=true) (hbd:(rows.length+news.length) * bytes≤140737488355328) (hb0:0 < bytes)
    (hfree:∀ g,v.ownBlock=some g→ ∀ o,S g o→o < rows.length * sz) (lt:∀ b o,S b o→b < w.heap.size) :
    ∃ v' w' S',(Builtin.append_ #[t,t] ty #[v,xv]).run P w=.ok v' w'∧(∃ xs',w'.ownsRow 0 e sz v' (rows.length+news.length) xs')∧w.grownBy w' v.ownBlock∧Kp S w w'∧
      (∀ g,v'.ownBlock=some g→v.ownBlock=some g∨w.heap.size≤g)∧(∀ b o,S b o→S' b o)∧(∀ b o,S' b o→S b o∨(v'.ownBlock=some b∧b < w'.heap.size))∧
      (∀ g,v'.ownBlock=some g→ ∀ o,S' g o→o < (rows.length+news.length) * sz)∧RD S' w' (.sl (rows++news)) v'∧((∀ g,v'.ownBlock=some g→ ∀ (i:Nat) (q:List D),rows[i]?=some q→ ∀ (j:Nat) (x:D),q[j]?=some x→ ∃ u,RD S w' x u∧w'.cell? ⟨g,i * sz+j,none⟩=some u)∧ ∀ b o,S' b o→S b o∨(v'.ownBlock=some b∧o < (rows.length+news.length) * sz)):=by
  have hml:rows.length+news.length≤140737488355328:=Nat.le_trans (Nat.le_mul_of_pos_right _ hb0) hbd
  have hml':rows.length+news.length≤maxLen:=by unfold maxLen;omega
  obtain ⟨A,c,vs,rfl,hc,hnil,hval,hspot,hmem⟩:=hrd.rows hrs
  obtain ⟨B,m,ws,rfl,hm,hnilB,hvalB,hspotB,hmemB⟩:=hx.rows hns
  cases B with
  | none =>
    have hn:news=[]:=hnilB rfl
    subst hn
    refine ⟨.slice A rows.length c,w,S,?_,⟨xs,by simpa using hown⟩,⟨rfl,rfl,rfl,Nat.le_refl _,fun _ _ _=>rfl⟩,.refl,fun g hg=>.inl hg,fun _ _ h=>h,fun _ _ h=>.inl h,by simpa using hfree,by simpa using hrd,?_,fun _ _ h=>.inl h⟩
    rotate_left
    · intro g hg i q hq j x hx
      cases A with
      | none=>simp [Value.ownBlock] at hg
      | some ad =>
        simp only [Value.ownBlock,Option.some.injEq] at hg
        have hlt:=(List.getElem?_eq_some_iff.1 hq).1
        have hql:=zbc hrs hq
        have h1:=(hmem ad rfl i hlt j (by rw [← hql];exact (List.getElem?_eq_some_iff.1 hx).1)).2
        rcases hown.2 with ⟨h2,_⟩ | ⟨g',cap,cur,h2,_⟩
        · cases h2
        · injection h2 with h2;injection h2 with h2;subst h2
          simp only at hg;subst hg
          simp only [Nat.zero_add] at h1
          exact ⟨_,hval i q hq j x hx,h1⟩
    rcases hown.2 with ⟨h1,_⟩ | ⟨g,cap,cur,h1,_,h2,h3,h4,h5,h6⟩
    · injection h1 with h1 h2 h3
      subst h1;subst h3;rw [h2]
      simp [Builtin.append_,run_underlying ht,sizeOf,typeInfo,hi,Builtin.lenOf,Builtin.firstCells]
    · injection h1 with h1 h2' h3'
      subst h1;subst h3'
      simp [Builtin.append_,run_underlying ht,sizeOf,typeInfo,hi,Builtin.lenOf,Builtin.firstCells,hc,storeCells]
  | some ad =>
    let fl:=flatV news.length sz ws
    have hfl:fl.length=news.length * sz:=zbM _ _ _
    have hcell:∀ (j:Nat) (u:Value),fl[j]?=some u→w.cell? (ad.add j)=some u:=by
      intro j u hj
      obtain ⟨i',j',hi',hj',rfl,rfl⟩:=zcm hj
      have hsp:=hspotB ad rfl (by omega)
      obtain ⟨b,off,sp⟩:=ad
      simp only at hsp
      subst hsp
      rw [Addr.add_lit]
      exact (hmemB _ rfl i' hi' j' hj').2
    have h1:∀ u∈fl,u.oneCell'=true:=by
      intro u hu
      obtain ⟨k,hk,rfl⟩:=List.mem_iff_getElem.1 hu
      obtain ⟨i',j',hi',hj',_,e⟩:=zcm (List.getElem?_eq_getElem hk)
      rw [e]
      have hq:=List.getElem?_eq_getElem hi'
      have hql:=zbc hns hq
      exact RD.one (hvalB i' _ hq j' _ (List.getElem?_eq_getElem (by rw [hql];exact hj')))
    obtain ⟨v',w',hr,ho',hg,_⟩:=run_append_own (P:=P) w 0 t ty e i z sz bytes ht hi hz hsize hby hzs hpos _ _ xs hown ad news.length m fl hfl hcell h1 hml' hbd (Nat.zero_le _)
    -- what is settled stays
    have hxcell:∀ g,(Value.slice A rows.length c).ownBlock=some g→ ∀ (j:Nat) (u:Value),xs[j]?=some u→w.cell? ⟨g,j,none⟩=some u:=by
      intro g hgb j u hu
      have:=hown.cells (g:=g) hgb j u hu
      rwa [Addr.add_lit,Nat.zero_add] at this
    have hkeep:Kp S w w'∧ ∀ g,v'.ownBlock=some g→(Value.slice A rows.length c).ownBlock=some g∨w.heap.size≤g:=by
      rcases hown.2 with ⟨h2,h3⟩ | ⟨g,cap,cur,h2,_,h3,h4,h5,h6,h7⟩
      · injection h2 with h2a h2b h2c
        subst h2a
        refine ⟨fun b o x hs hx=>?_,fun g hgb=>?_⟩
        · rw [World.cell?_of_block (hg.block b (lt b o hs) (by simp [Value.ownBlock]))];exact hx
        · rcases ho'.2 with ⟨e1,_⟩ | ⟨g',cap',cur',e1,_,e2,_⟩
          · subst e1;simp [Value.ownBlock] at hgb
          · subst e1
            simp only [Value.ownBlock,Option.some.injEq] at hgb
            subst hgb
            by_cases hlt:g' < w.heap.size
            · exfalso
              by_cases hn0:news.length=0
              · have hr2:=hr
                have hnn:news=[]:=List.eq_nil_of_length_eq_zero hn0
                subst hnn
                rw [h2c,h2b] at hr2
                simp [Builtin.append_,run_underlying ht,sizeOf,typeInfo,hi,Builtin.lenOf,Builtin.firstCells,loadCells,loadCellsFrom] at hr2
              · have hrn:=run_append_nil (P:=P) w t ty e i z ht hi hz ad news.length m fl (by rw [hfl,hsize]) hcell (by omega) (by omega) (by have h9:=hbd;rw [h3,Nat.zero_add] at h9;rw [hby];omega)
                rw [h2c,h2b] at hr
                rw [hrn] at hr
                injection hr with hr1 hr2
                injection hr1 with hr1
                injection hr1 with hr1
                injection hr1 with hr1
                omega
            · exact .inr (by omega)
      · injection h2 with h2a h2b h2c
        subst h2a;subst h2c
        by_cases hroom:rows.length+news.length≤c
        · have hfit:rows.length * i.size+fl.length≤cur.size:=by rw [hfl,hsize,h6,← Nat.add_mul];exact Nat.mul_le_mul_right _ hroom
          have hrr:=run_append_room (P:=P) w t ty e i ht hi g rows.length c cur h3 ad news.length m fl (by rw [hfl,hsize]) hcell h1 hroom hfit
          rw [hrr] at hr
          injection hr with hr1 hr2
          subst hr1;subst hr2
          refine ⟨fun b o x hs hx=>?_,fun g' hg'=>.inl (by simpa [Value.ownBlock] using hg')⟩
          by_cases hb:b=g
          · subst hb
            have hlt:=hfree b rfl o hs
            rw [cell_setRow_same w b o cur _ e (0,0) h3]
            rw [cell_of_row w b o cur e (0,0) h3] at hx
            have hlen:(cur.toList.take (rows.length * i.size)).length=rows.length * i.size:=by rw [List.length_take];simp;omega
            simp only [List.getElem?_toArray]
            rw [List.append_assoc,List.getElem?_append_left (by rw [hlen,hsize];exact hlt),List.getElem?_take,if_pos (by rw [hsize];exact hlt)]
            simpa using hx
          · rw [cell_setRow_other w g _ ⟨b,o,none⟩ hb];exact hx
        · have hxl:xs.length=rows.length * i.size:=by rw [hsize];exact hown.1
          have hgr:=run_append_grow (P:=P) w t ty e i z ht hi hz ⟨g,0,none⟩ rows.length c xs hxl (hown.cells (g:=g) rfl) ad news.length m fl (by rw [hfl,hsize]) hcell (by omega) (by omega) (growslice_fits (by omega) (by rw [hby];exact hbd))
          rw [hgr] at hr
          injection hr with hr1 hr2
          subst hr1;subst hr2
          refine ⟨fun b o x hs hx=>?_,fun g' hg'=>.inr (by simp [Value.ownBlock] at hg';omega)⟩
          rw [World.cell?_of_block (Below.heap_alloc w.drew _ b (lt b o hs))]
          exact hx
    obtain ⟨hkp,hnb⟩:=hkeep
    have hgetX:∀ (i' j:Nat),i' < rows.length→j < sz→ ∃ u,(xs++fl)[i' * sz+j]?=some u∧vs i' j=u:=by
      intro i' j hlt hj
      have hidx:i' * sz+j < xs.length:=by
        rw [hown.1]
        have:(i'+1) * sz≤rows.length * sz:=Nat.mul_le_mul_right _ hlt
        rw [Nat.add_mul] at this;omega
      refine ⟨vs i' j,?_,rfl⟩
      rw [List.getElem?_append_left hidx]
      cases A with
      | none=>rw [hnil rfl] at hlt;simp at hlt
      | some ad' =>
        have hsp:=hspot ad' rfl (by omega)
        have h5:=hxcell ad'.block rfl (i' * sz+j) _ (List.getElem?_eq_getElem hidx)
        have h6:=(hmem ad' rfl i' hlt j hj).2
        rcases hown.2 with ⟨e1,_⟩ | ⟨g',cap',cur',e1,_⟩
        · cases e1
        · injection e1 with e1a
          injection e1a with e1a
          subst e1a
          simp only [Nat.zero_add] at h5 h6
          rw [h5] at h6
          rw [List.getElem?_eq_getElem hidx]
          exact h6
    let S':Nat→Nat→Prop:=fun b o=>S b o∨(v'.ownBlock=some b∧o < (rows.length+news.length) * sz)
    have hSS:∀ b o,S b o→S' b o:=fun _ _ h=>.inl h
    have hblt:∀ b,v'.ownBlock=some b→b < w'.heap.size:=fun b hb=>(ho'.lt b hb).2
    refine ⟨v',w',S',hr,⟨_,ho'⟩,hg,hkp,hnb,hSS,fun b o hs=>hs.imp id fun h=>⟨h.1,hblt b h.1⟩,fun g hgb o hs=>?_,?_,?_,fun b o hs=>hs⟩
    rotate_right
    · intro g hgb i' q hq j x hx
      rcases ho'.2 with ⟨e1,_⟩ | ⟨g',cap,cur,e1,_⟩
      · subst e1;simp [Value.ownBlock] at hgb
      · subst e1
        simp only [Value.ownBlock,Option.some.injEq] at hgb
        subst hgb
        have hlt:=(List.getElem?_eq_some_iff.1 hq).1
        have hql:=zbc hrs hq
        have hj:j < sz:=by rw [← hql];exact (List.getElem?_eq_some_iff.1 hx).1
        obtain ⟨u,hu,he⟩:=hgetX i' j hlt hj
        have h7:=ho'.cells (g:=g') rfl (i' * sz+j) u hu
        rw [Addr.add_lit,Nat.zero_add] at h7
        exact ⟨u,he ▸ (hval i' q hq j x hx).mono (fun _ _ h=>h) hkp,h7⟩
    · rcases hs with hs|hs
      · rcases hnb g hgb with h2|h2
        · have:=hfree g h2 o hs
          have:rows.length * sz≤(rows.length+news.length) * sz:=Nat.mul_le_mul_right _ (Nat.le_add_right _ _)
          omega
        · have:=lt g o hs;omega
      · exact hs.2
    · rcases ho'.2 with ⟨rfl,hz0⟩ | ⟨g,cap,cur,rfl,_,hgc,hle,hcm,hcs,htake⟩
      · have e1:rows++news=[]:=List.eq_nil_of_length_eq_zero (by rw [List.length_append];exact hz0)
        rw [e1];exact RD.nil_
      · have hcm':cap≤9223372036854775807:=by unfold maxLen at hcm;omega
        have hget:∀ (i' j:Nat),i' < rows.length+news.length→j < sz→ ∃ u,(xs++fl)[i' * sz+j]?=some u∧u=(if i' < rows.length then vs i' j else ws (i' - rows.length) j):=by
          intro i' j hi' hj
          by_cases hlt:i' < rows.length
          · rw [if_pos hlt]
            have hidx:i' * sz+j < xs.length:=by
              rw [hown.1]
              have:(i'+1) * sz≤rows.length * sz:=Nat.mul_le_mul_right _ hlt
              rw [Nat.add_mul] at this;omega
            refine ⟨vs i' j,?_,rfl⟩
            rw [List.getElem?_append_left hidx]
            cases A with
            | none=>rw [hnil rfl] at hlt;simp at hlt
            | some ad' =>
              have hsp:=hspot ad' rfl (by omega)
              have h5:=hxcell ad'.block rfl (i' * sz+j) _ (List.getElem?_eq_getElem hidx)
              have h6:=(hmem ad' rfl i' hlt j hj).2
              rcases hown.2 with ⟨e1,_⟩ | ⟨g',cap',cur',e1,_⟩
              · cases e1
              · injection e1 with e1a
                injection e1a with e1a
                subst e1a
                simp only [Nat.zero_add] at h5 h6
                rw [h5] at h6
                rw [List.getElem?_eq_getElem hidx]
                exact h6
          · rw [if_neg hlt]
            have hidx:xs.length≤i' * sz+j:=by
              rw [hown.1]
              have:rows.length * sz≤i' * sz:=Nat.mul_le_mul_right _ (by omega)
              omega
            refine ⟨_,?_,rfl⟩
            rw [List.getElem?_append_right hidx,hown.1]
            have e3:i' * sz+j - rows.length * sz=(i' - rows.length) * sz+j:=by
              have:rows.length * sz≤i' * sz:=Nat.mul_le_mul_right _ (by omega)
              rw [Nat.sub_mul];omega
            rw [e3]
            exact zdu ws (by omega) hj
        have hlen:(rows++news).length=rows.length+news.length:=List.length_append
        rw [← hlen]
        refine .sl (rows++news) _ cap sz (fun i' j=>if i' < rows.length then vs i' j else ws (i' - rows.length) j) (by omega) (by omega) (fun h=>by cases h) (fun i' q hq=>?_) (fun i' q hq j x hx=>?_) (fun ad' h _=>by cases h;rfl) fun ad' h i' hi' j hj=>?_
        · by_cases hlt:i' < rows.length
          · rw [List.getElem?_append_left hlt] at hq;exact zbc hrs hq
          · rw [List.getElem?_append_right (by omega)] at hq;exact zbc hns hq
        · by_cases hlt:i' < rows.length
          · rw [List.getElem?_append_left hlt] at hq
            rw [if_pos hlt];exact (hval i' q hq j x hx).mono hSS hkp
          · rw [List.getElem?_append_right (by omega)] at hq
            rw [if_neg hlt];exact (hvalB _ q hq j x hx).mono hSS hkp
        · cases h
          rw [hlen] at hi'
          obtain ⟨u,hu,he⟩:=hget i' j hi' hj
          have hlt:i' * sz+j < (rows.length+news.length) * sz:=by
            have:(i'+1) * sz≤(rows.length+news.length) * sz:=Nat.mul_le_mul_right _ hi'
            rw [Nat.add_mul] at this;omega
          refine ⟨.inr ⟨rfl,by simpa using hlt⟩,?_⟩
          simp only [Nat.zero_add]
          have h7:=ho'.cells (g:=g) rfl (i' * sz+j) u hu
          rw [Addr.add_lit,Nat.zero_add] at h7
          rw [h7,he]
theorem zke {P:Program} {t ty e:TypeId} {i:TypeInfo} {z:Value} {sz bytes:Nat} (ht:P.underlying t=some (.slice e)) (hi:P.info? e=some i) (hz:i.zero=some z)
    (hsize:i.size=sz) (hby:i.bytes=bytes) (hzs:z.cells.size=sz) (hpos:0 < sz) {v:Value} {rows news:List (List D)} (xs:List Value) (hown:w.ownsRow 0 e sz v rows.length xs) (hrd:RD S w (.sl rows) v) (hrs:sized sz rows=true)
    {xv:Value} (hx:RD S w (.sl news) xv) (hns:sized sz news=true) (hbd:(rows.length+news.length) * bytes≤140737488355328) (hb0:0 < bytes)
    (hfree:∀ g,v.ownBlock=some g→ ∀ o,S g o→o < rows.length * sz) (lt:∀ b o,S b o→b < w.heap.size) :
    ∃ v' w' S',(Builtin.append_ #[t,t] ty #[v,xv]).run P w=.ok v' w'∧(∃ xs',w'.ownsRow 0 e sz v' (rows.length+news.length) xs')∧w.grownBy w' v.ownBlock∧Kp S w w'∧
      (∀ g,v'.ownBlock=some g→v.ownBlock=some g∨w.heap.size≤g)∧(∀ b o,S b o→S' b o)∧(∀ b o,S' b o→S b o∨(v'.ownBlock=some b∧b < w'.heap.size))∧
      (∀ g,v'.ownBlock=some g→ ∀ o,S' g o→o < (rows.length+news.length) * sz)∧RD S' w' (.sl (rows++news)) v':=by
  obtain ⟨v',w',S',r1,r2,r3,r4,r5,r6,r7,r8,r9,_⟩:=zfv (ty:=ty) ht hi hz hsize hby hzs hpos xs hown hrd hrs hx hns hbd hb0 hfree lt
  exact ⟨v',w',S',r1,r2,r3,r4,r5,r6,r7,r8,r9⟩
theorem Rel.append {k d:Nat} {e:TypeId} {sz:Nat} {rows':List (List D)} {v':Value} (hr:Rel X γ T S w fr σ a) (hk:look σ k=some (.tok e sz)) (hn:∃ xs',w'.ownsRow 0 e sz v' rows'.length xs')
    (hg:w.grownBy w' (T k).ownBlock) (hkp:Kp S w w') (hnb:∀ g,v'.ownBlock=some g→(T k).ownBlock=some g∨w.heap.size≤g) (hSS:∀ b o,S b o→S' b o) (hSS':∀ b o,S' b o→S b o∨(v'.ownBlock=some b∧b < w'.heap.size))
    (hfree:∀ g,v'.ownBlock=some g→ ∀ o,S' g o→o < rows'.length * sz) (hrd:RD S' w' (.sl rows') v') :
    Rel X γ (setK T d v') S' w' (stripF d fr) ((d,.tok e sz) :: stripS d ((k,.junk) :: σ)) a∧RV γ (setK T d v') S' w' (.one (.own d rows')) v':=by
  have hkN:∀ g,(T k).ownBlock=some g→¬ X.N g∧g < w.heap.size:=fun g h=>⟨(hr.st.obj k _ hk).free (show fp γ T k (.tok e sz) g from h),(hr.st.obj k _ hk).lt (show fp γ T k (.tok e sz) g from h)⟩
  have hnN:∀ g,v'.ownBlock=some g→¬ X.N g:=fun g h=>by
    rcases hnb g h with h1|h1
    · exact (hkN g h1).1
    · exact (za6 hr g h1).2
  -- ahead of the new key: key k is let go
  have h0:Rel X γ T S' w' fr ((k,.junk) :: σ) a:=by
    obtain ⟨⟨keep,lt,nlt,set,mon,obj,dis⟩,hfr,hnt,hdf⟩:=hr
    refine ⟨⟨keep.trans ⟨hg.os,hg.tape,hg.output,hg.size,fun b hb hlt=>hg.block b hlt fun he=>(hkN b he.symm).1 hb⟩,fun b o hs=>?_,nlt,fun b o hs=>?_,⟨fun b o hs=>hSS _ _ (mon.1 b o hs),fun b o x hs hc=>hkp b o x (mon.1 b o hs) (mon.2 b o x hs hc)⟩,fun j o hj=>?_,fun i j o o' hi hj hne b hb=>?_⟩,fun t x hx=>(hfr t x hx).mono hSS hkp,hnt,hdf⟩
    · rcases hSS' b o hs with h1|h1
      · exact Nat.lt_of_lt_of_le (lt b o h1) hg.size
      · exact h1.2
    · rcases hSS' b o hs with h1|h1
      · exact set b o h1
      · exact .inr (hnN b h1.1)
    · simp only [look] at hj
      split at hj
      · injection hj with hj;subst hj;trivial
      · rename_i hne
        refine (obj j o hj).kept hSS hkp fun b hb=>⟨hg.block b ((obj j o hj).lt hb) fun he=>dis k j _ o hk hj hne b (show fp γ T k (.tok e sz) b from he.symm) hb,fun i hs=>?_⟩
        rcases hSS' b i hs with h1|h1
        · exact h1
        · rcases hnb b h1.1 with h2|h2
          · exact (dis k j _ o hk hj hne b (show fp γ T k (.tok e sz) b from h2) hb).elim
          · have:=(obj j o hj).lt hb;omega
    · simp only [look] at hi hj
      split at hi
      · injection hi with hi;subst hi;exact hb.elim
      · split at hj
        · injection hj with hj;subst hj;exact id
        · exact dis i j o o' hi hj hne b hb
  have h1:=h0.upd (γ':=γ) (T':=setK T d v') d (fun _ _=>rfl) (fun j hj=>zaz _ _ _ _ hj)
  refine ⟨h1.add (fun o hl=>?_) ?_ fun b hfp k' o' hl hne hb'=>?_,.one ⟨hrd,zaq _ _ _⟩⟩
  · rw [zar,Option.map_eq_some_iff] at hl
    obtain ⟨o',_,h3⟩:=hl
    simpa using h3.symm
  · obtain ⟨xs',hx⟩:=hn
    exact ⟨rows'.length,xs',by rw [zaq];exact hx,fun g hgb=>by rw [zaq] at hgb;exact ⟨hnN g hgb,hfree g hgb⟩⟩
  · simp only [fp,zaq] at hfp
    rw [zar,Option.map_eq_some_iff] at hl
    obtain ⟨o2,h5,h4⟩:=hl
    rw [if_neg hne] at h4
    subst h4
    have h6:=fp.strip (γ:=γ) (T:=T) hne (fun _ _=>rfl) (fun j hj=>zaz _ _ _ _ hj) hb'
    simp only [look] at h5
    split at h5
    · injection h5 with h5;subst h5;exact h6.elim
    · rename_i hkk
      rcases hnb b hfp with h2|h2
      · exact hr.st.dis k k' _ o2 hk h5 hkk b (show fp γ T k (.tok e sz) b from h2) h6
      · have:=(hr.st.obj k' o2 h5).lt h6;omega
theorem Rel.nil_ (k:Nat) (e:TypeId) (sz:Nat) (hr:Rel X γ T S w fr σ a):Rel X γ (setK T k (.slice none 0 0)) S w (stripF k fr) ((k,.tok e sz) :: stripS k σ) a:=by
  have h1:=hr.upd (γ':=γ) (T':=setK T k (.slice none 0 0)) k (fun _ _=>rfl) (fun j hj=>zaz _ _ _ _ hj)
  refine h1.add (fun o hl=>?_) ?_ fun b hfp k' o' hl hne hb'=>?_
  · rw [zar,Option.map_eq_some_iff] at hl
    obtain ⟨o',_,h3⟩:=hl
    simpa using h3.symm
  · exact ⟨0,[],by rw [zaq];exact World.ownsRow_nil w 0 e sz,fun g hgb=>by rw [zaq] at hgb;simp [Value.ownBlock] at hgb⟩
  · simp [fp,zaq,Value.ownBlock] at hfp
theorem zgN {k:Nat} {e:TypeId} {sz:Nat} {rows:List (List D)} {v:Value} (ho:RO X γ T S w k (.tok e sz)) (hv:RC γ T S w (.own k rows) v) :
    ∃ xs,w.ownsRow 0 e sz v rows.length xs∧ ∀ g,v.ownBlock=some g→ ∀ o,S g o→o < rows.length * sz:=by
  obtain ⟨n,xs,h1,h2⟩:=ho
  obtain ⟨h3,h4⟩:=hv
  rw [h4] at h1 h2
  have hn:n=rows.length:=by
    cases h3 with
    | sl _ A c =>
      rcases h1.2 with ⟨e1,e2⟩ | ⟨g,cap,cur,e1,_⟩
      · injection e1 with _ e3 _;omega
      · injection e1 with _ e3 _;exact e3.symm
  subst hn
  exact ⟨xs,h1,fun g hg=>(h2 g hg).2⟩
variable {ops:Array Oper} {rest:List Oper} {Q:Fr→Obs→Prop}
theorem zbA {s x:Operand} {ats:Array TypeId} (ho:o.op=.call { callee:=.builtin .append,args := #[s,x],argTypes:=ats }) {v:Value} (hr:(Builtin.append_ ats o.type #[a.eval s,a.eval x]).run X.P w=.ok v w'):(execOp a.eval o).run X.P w=.ok (.value v) w':=by
  simp only [execOp,ho,resolve,invoke,builtin,Sem.run_bind,Sem.run_pure,Result.andThen_ok,List.map_toArray,List.map_cons,List.map_nil,hr]
theorem zdc (hT:Good X) {t ty e:TypeId} {k sz:Nat} {i ie:TyI} {rows news:List (List D)} (hr:Rel X γ T S w fr σ a) (hk:look σ k=some (.tok e sz)) {v xv:Value} (hv:RC γ T S w (.own k rows) v) (hx:RD S w (.sl news) xv)
    (hi:X.Ty t=some i) (hit:i.tag=2) (hie:i.elem=e) (he:X.Ty e=some ie) (hsz:ie.size=sz) (h1:sized sz rows=true) (h2:sized sz news=true) (hbd:(rows.length+news.length) * ie.bytes≤140737488355328) :
    ∃ v' w' S',(Builtin.append_ #[t,t] ty #[v,xv]).run X.P w=.ok v' w'∧(∃ xs',w'.ownsRow 0 e sz v' (rows++news).length xs')∧w.grownBy w' (T k).ownBlock∧Kp S w w'∧(∀ g,v'.ownBlock=some g→(T k).ownBlock=some g∨w.heap.size≤g)∧
      (∀ b o,S b o→S' b o)∧(∀ b o,S' b o→S b o∨(v'.ownBlock=some b∧b < w'.heap.size))∧(∀ g,v'.ownBlock=some g→ ∀ o,S' g o→o < (rows++news).length * sz)∧RD S' w' (.sl (rows++news)) v':=by
  obtain ⟨inf,d0,g1,g2,g3,g4,g5,g6,g7,g8,g9,g10⟩:=(hT t i hi).get
  obtain ⟨inf',d',g1',g2',g3',g4',g5',_⟩:=(hT e ie he).get
  rw [hit] at g10
  cases d0 with
  | slice el =>
    simp only [elemOfD] at g7
    rw [hie] at g7;subst g7
    obtain ⟨xs,f1,f2⟩:=zgN (hr.st.obj k _ hk) hv
    have hzl:(if ie.agg=true then Value.agg ie.zero.toArray else ie.zero.headD undef).cells.size=sz:=by
      have hzl:=(hT el ie he).zlen
      split
      · simp [Value.cells,hzl,hsz]
      · have hp:=(hT el ie he).pos
        cases hz:ie.zero with
        | nil=>rw [hz] at hzl;simp at hzl;omega
        | cons u us =>
          have h1c:u.oneCell'=true:=by have:=(hT el ie he).z1;rw [hz] at this;simp only [List.all_cons,Bool.and_eq_true] at this;exact this.1
          rename_i hna
          simp only [List.headD_cons,cells1v h1c]
          have hsc:ie.size=1:=by
            have:=(hT el ie he).sca
            exact this (by simpa using hna)
          rw [← hsz,hsc];rfl
    obtain ⟨v',w',S',r1,r2,r3,r4,r5,r6,r7,r8,r9⟩:=zke (P:=X.P) (t:=t) (ty:=ty) g2 g1' g5' (g3'.trans hsz) g4' hzl (by rw [← hsz];exact (hT el ie he).pos) xs f1 hv.1 h1 hx h2 hbd (hT el ie he).bpos f2 hr.st.lt
    rw [← hv.2] at r3 r5
    exact ⟨v',w',S',r1,by rw [List.length_append];exact r2,r3,r4,r5,r6,r7,by rw [List.length_append];exact r8,r9⟩
  | _=>simp [tagOf] at g10
theorem zea (hT:Good X) {t ty e:TypeId} {k d sz:Nat} {i ie:TyI} {rows news:List (List D)} (hr:Rel X γ T S w fr σ a) (hk:look σ k=some (.tok e sz)) {v xv:Value} (hv:RC γ T S w (.own k rows) v) (hx:RD S w (.sl news) xv)
    (hi:X.Ty t=some i) (hit:i.tag=2) (hie:i.elem=e) (he:X.Ty e=some ie) (hsz:ie.size=sz) (h1:sized sz rows=true) (h2:sized sz news=true) (hbd:(rows.length+news.length) * ie.bytes≤140737488355328) :
    ∃ v' w' S',(Builtin.append_ #[t,t] ty #[v,xv]).run X.P w=.ok v' w'∧Rel X γ (setK T d v') S' w' (stripF d fr) ((d,.tok e sz) :: stripS d ((k,.junk) :: σ)) a∧RV γ (setK T d v') S' w' (.one (.own d (rows++news))) v':=by
  obtain ⟨v',w',S',r1,r2,r3,r4,r5,r6,r7,r8,r9⟩:=zdc (ty:=ty) hT hr hk hv hx hi hit hie he hsz h1 h2 hbd
  obtain ⟨q1,q2⟩:=hr.append (d:=d) (rows':=rows++news) hk r2 r3 r4 r5 r6 r7 r8 r9
  exact ⟨v',w',S',r1,q1,q2⟩
theorem zk1 (hT:Good X) {s x:Operand} {t e:TypeId} {k d sz:Nat} {i ie:TyI} {rows news:List (List D)} (hw:wantA ops o fr=some true) (hdst:o.dst=some d) (hd:Nat.blt d X.nt=true) (ho:o.op=.call { callee:=.builtin .append,args := #[s,x],argTypes := #[t,t] })
    (hs:ev fr s=some (.one (.own k rows))) (hk:look σ k=some (.tok e sz)) (hx:(ev fr x).bind rowsV=some news) (hi:X.Ty t=some i) (hit:i.tag=2) (hie:i.elem=e) (he:X.Ty e=some ie) (hsz:ie.size=sz)
    (h1:sized sz rows=true) (h2:sized sz news=true) (hbd:(rows.length+news.length) * ie.bytes≤140737488355328)
    (h:RL X ops rest ((d,.one (.own d (rows++news))) :: stripF d fr) ((d,.tok e sz) :: stripS d ((k,.junk) :: σ)) Q):RL X ops (o :: rest) fr σ Q :=
  ⟨fun γ T S w a K hr hkk=>wpList_step fun K' hK=>by
    rw [if_pos (zam hr hw)]
    have hv:=zae hr hs
    cases hv with
    | one hv =>
      obtain ⟨xv,hx1,hx2⟩:=Option.bind_eq_some_iff.1 hx
      obtain ⟨v',w',S',r1,q1,q2⟩:=zea (ty:=o.type) (d:=d) hT hr hk hv (zaR hx2 (zae hr hx1)) hi hit hie he hsz h1 h2 hbd
      have q3:=h.out γ _ S' w' _ K (q1.put (dst:=some d) (show inF X.nt (some d)=true from hd) q2) hkk
      unfold Oper.wp
      rw [zbA ho r1]
      rw [← hdst] at q3
      exact hK _ _ q3⟩
theorem zkA (hT:Good X) {s x:Operand} {t e:TypeId} {d sz:Nat} {i ie:TyI} {y:Value} {news:List (List D)} (hw:wantA ops o fr=some true) (hdst:o.dst=some d) (hd:Nat.blt d X.nt=true) (ho:o.op=.call { callee:=.builtin .append,args := #[s,x],argTypes := #[t,t] })
    (hs:ev fr s=some (.one (.d (.v y)))) (hy:isNil y=true) (hx:(ev fr x).bind rowsV=some news) (hi:X.Ty t=some i) (hit:i.tag=2) (hie:i.elem=e) (he:X.Ty e=some ie) (hsz:ie.size=sz)
    (h2:sized sz news=true) (hbd:news.length * ie.bytes≤140737488355328)
    (h:RL X ops rest ((d,.one (.own d news)) :: stripF d (stripF d fr)) ((d,.tok e sz) :: stripS d ((d,.junk) :: (d,.tok e sz) :: stripS d σ)) Q):RL X ops (o :: rest) fr σ Q :=
  ⟨fun γ T S w a K hr hkk=>wpList_step fun K' hK=>by
    rw [if_pos (zam hr hw)]
    have hv:=zaw (zae hr hs)
    rw [zb5 hy] at hv
    obtain ⟨xv,hx1,hx2⟩:=Option.bind_eq_some_iff.1 hx
    obtain ⟨v',w',S',r1,q1,q2⟩:=zea (ty:=o.type) (d:=d) (rows:=[]) hT (hr.nil_ d e sz) (by simp [look]) (v:=.slice none 0 0) ⟨RD.nil_,zaq _ _ _⟩ (zaR hx2 (zae hr hx1)) hi hit hie he hsz rfl h2 (by simpa using hbd)
    have q3:=h.out γ _ S' w' _ K (q1.put (dst:=some d) (show inF X.nt (some d)=true from hd) q2) hkk
    rw [← hv] at r1
    unfold Oper.wp
    rw [zbA ho r1]
    rw [← hdst] at q3
    exact hK _ _ q3⟩
theorem zp5 {c:Code} {Q:Exit→Fr→Obs→Prop} (t k:Nat) (e:TypeId) (sz:Nat) {x:Value} (hl:look fr t=some (.one (.d (.v x)))) (hx:isNil x=true) (h:W X c ((t,.one (.own k [])) :: stripF k fr) ((k,.tok e sz) :: stripS k σ) Q):W X c fr σ Q :=
  ⟨fun γ T S w a hr=>by
    refine h.out γ (setK T k (.slice none 0 0)) S w a ?_
    obtain ⟨st,hfr,hn,hdf⟩:=hr.nil_ k e sz
    refine ⟨st,fun t' y hy=>?_,hn,hdf⟩
    simp only [look] at hy
    split at hy
    · rename_i e1
      injection hy with hy;subst hy;subst e1
      have:=zaw (hr.fr t _ hl)
      rw [this,zb5 hx]
      exact .one ⟨RD.nil_,zaq _ _ _⟩
    · exact hfr t' y hy⟩
end
end Go.Proofs.YtiplihojmfbjkaaGreat
