/- Walks: queues. A slice of one's own whose first elements are cut off,one after the other,and to which one appends. -/
import Derived.Test.YtiplihojmfbjkaaGreatMC
import Derived.Test.YtiplihojmfbjkaaGreatWI
import Derived.ArgAppend
namespace Go.Proofs.YtiplihojmfbjkaaGreat
open Go.RowKit
section
variable {X:Ctx} {γ:Nat→Nat} {T:Nat→Value} {S:Nat→Nat→Prop} {w w':World} {fr:Fr} {σ:Obs} {a:Act} {o:Oper} {ops:Array Oper} {rest:List Oper} {Q:Fr→Obs→Prop}
theorem zem (sz:Nat) (v:Value):tailV 0 sz v=v:=by
  unfold tailV
  split
  · simp
  · rfl
theorem zjJ {P:Program} (w:World) (t ty e:TypeId) (i:TypeInfo) (ht:P.underlying t=some (.slice e)) (hi:P.info? e=some i)
    (g off sLen sCap:Nat) (cur:Array Value) (hg:w.heap[g]?=some (.cells cur e (0,0)))
    (a:Addr) (m c:Nat) (news:List Value) (hl:news.length=m * i.size) (hnews:∀ j u,news[j]?=some u→w.cell? (a.add j)=some u) (h1:∀ u∈news,u.oneCell'=true)
    (hroom:sLen+m≤sCap) (hfit:off+sLen * i.size+news.length≤cur.size) :
    (Builtin.append_ #[t,t] ty #[.slice (some ⟨g,off,none⟩) sLen sCap,.slice (some a) m c]).run P w =
      .ok (.slice (some ⟨g,off,none⟩) (sLen+m) sCap) (w.setRow g (cur.toList.take (off+sLen * i.size)++news++cur.toList.drop (off+sLen * i.size+news.length)).toArray):=by
  have hf:=run_firstCells_some (P:=P) w i.size m a m c news hl hnews
  have hst:=run_storeCells_at P g (off+sLen * i.size) e news 0 cur w hg (by simpa using hfit) h1
  simp only [Nat.add_zero] at hst
  simp [Builtin.append_,run_underlying ht,sizeOf,typeInfo,hi,Builtin.lenOf,hroom,hf,Addr.add_lit,hst]
theorem zeO {rows:List (List D)} {sz:Nat} {b:Addr} {c:Nat} (h:RD S w (.sl rows) (.slice (some b) rows.length c)) (hs:sized sz rows=true) :
    ∃ vs:Nat→Nat→Value,(∀ (i:Nat) (q:List D),rows[i]?=some q→ ∀ (j:Nat) (x:D),q[j]?=some x→RD S w x (vs i j))∧(∀ (j:Nat) (u:Value),(flatV rows.length sz vs)[j]?=some u→w.cell? (b.add j)=some u)∧ ∀ u∈flatV rows.length sz vs,u.oneCell'=true:=by
  obtain ⟨B,m,vs,he,hm,hnilB,hval,hspot,hmem⟩:=h.rows hs
  injection he with he
  subst he
  refine ⟨vs,hval,fun j u hj=>?_,fun u hu=>?_⟩
  · obtain ⟨i',j',hi',hj',rfl,rfl⟩:=zcm hj
    have hsp:=hspot b rfl (by omega)
    obtain ⟨b,off,sp⟩:=b
    simp only at hsp
    subst hsp
    rw [Addr.add_lit]
    exact (hmem _ rfl i' hi' j' hj').2
  · obtain ⟨k,hk,rfl⟩:=List.mem_iff_getElem.1 hu
    obtain ⟨i',j',hi',hj',_,e⟩:=zcm (List.getElem?_eq_getElem hk)
    rw [e]
    have hq:=List.getElem?_eq_getElem hi'
    have hql:=zbc hs hq
    exact RD.one (hval i' _ hq j' _ (List.getElem?_eq_getElem (by rw [hql];exact hj')))
theorem zpR {P:Program} {t ty e:TypeId} {i:TypeInfo} {z:Value} {sz bytes:Nat} (ht:P.underlying t=some (.slice e)) (hi:P.info? e=some i) (hz:i.zero=some z) (hsize:i.size=sz) (hby:i.bytes=bytes) (hzs:z.cells.size=sz) (hpos:0 < sz)
    {rows news:List (List D)} {b:Addr} {cap:Nat} (hrd:RD S w (.sl rows) (.slice (some b) rows.length cap)) (hrs:sized sz rows=true) {xv:Value} (hx:RD S w (.sl news) xv) (hns:sized sz news=true) (hn:news≠[])
    (hcap:cap < rows.length+news.length) (hbd:(rows.length+news.length) * bytes≤140737488355328) (hb0:0 < bytes) (lt:∀ b o,S b o→b < w.heap.size) :
    ∃ v' w' S',(Builtin.append_ #[t,t] ty #[.slice (some b) rows.length cap,xv]).run P w=.ok v' w'∧(∃ xs',w'.ownsRow 0 e sz v' (rows++news).length xs')∧w.grownBy w' none∧Kp S w w'∧
      (∀ g,v'.ownBlock=some g→w.heap.size≤g)∧(∀ b o,S b o→S' b o)∧(∀ b o,S' b o→S b o∨(v'.ownBlock=some b∧b < w'.heap.size))∧
      (∀ g,v'.ownBlock=some g→ ∀ o,S' g o→o < (rows++news).length * sz)∧RD S' w' (.sl (rows++news)) v':=by
  have hml:rows.length+news.length≤140737488355328:=Nat.le_trans (Nat.le_mul_of_pos_right _ hb0) hbd
  have hml':rows.length+news.length≤maxLen:=by unfold maxLen;omega
  have hlen:(rows++news).length=rows.length+news.length:=List.length_append
  obtain ⟨vs,hval,hcells,hone⟩:=zeO hrd hrs
  cases hxv:xv with
  | slice B m0 m =>
    have hB:∃ ad,B=some ad:=by
      obtain ⟨B',m',ws,he,_,hnilB,_⟩:=hx.rows hns
      rw [hxv] at he
      injection he with e1 e2 e3
      cases B with
      | none=>exact absurd (hnilB e1.symm) hn
      | some ad=>exact ⟨ad,rfl⟩
    obtain ⟨ad,rfl⟩:=hB
    have hm0:m0=news.length:=by
      obtain ⟨B',m',ws,he,_⟩:=hx.rows hns
      rw [hxv] at he
      injection he
    subst hm0
    rw [hxv] at hx
    obtain ⟨ws,hvalB,hcellsB,honeB⟩:=zeO hx hns
    obtain ⟨v',w',hr,ho',hg⟩:=run_append_arg_grows (P:=P) w t ty e i z sz bytes ht hi hz hsize hby hzs hpos b rows.length cap _ (zbM _ _ vs) hcells ad news.length m _ (zbM _ _ ws) hcellsB hcap hml' hbd
    have hkp:Kp S w w':=fun b o x hs hc=>by
      rw [World.cell?_of_block (hg.block b (lt b o hs) (by simp))];exact hc
    have hnb:∀ g,v'.ownBlock=some g→w.heap.size≤g:=fun g hgb=>(ho'.lt g hgb).1
    let S':Nat→Nat→Prop:=fun b o=>S b o∨(v'.ownBlock=some b∧o < (rows.length+news.length) * sz)
    have hSS:∀ b o,S b o→S' b o:=fun _ _ h=>.inl h
    refine ⟨v',w',S',hr,⟨_,by rw [hlen];exact zfe ho'⟩,hg,hkp,hnb,hSS,fun b o hs=>hs.imp id fun h=>⟨h.1,(ho'.lt b h.1).2⟩,fun g hgb o hs=>?_,?_⟩
    · rw [hlen]
      rcases hs with hs|hs
      · have:=lt g o hs;have:=hnb g hgb;omega
      · exact hs.2
    · rcases ho'.2 with ⟨rfl,hz0⟩ | ⟨g,cp,cur,rfl,_,hgc,hle,hcm,hcs,htake⟩
      · have e1:rows++news=[]:=List.eq_nil_of_length_eq_zero (by rw [hlen];exact hz0)
        rw [e1];exact RD.nil_
      · have hcm':cp≤9223372036854775807:=by unfold maxLen at hcm;omega
        have hget:∀ (i' j:Nat),i' < rows.length+news.length→j < sz→(flatV rows.length sz vs++flatV news.length sz ws)[i' * sz+j]?=some (if i' < rows.length then vs i' j else ws (i' - rows.length) j):=by
          intro i' j hi' hj
          by_cases hlt:i' < rows.length
          · rw [if_pos hlt]
            have h1:=zdu vs hlt hj
            rw [List.getElem?_append_left (List.getElem?_eq_some_iff.1 h1).1];exact h1
          · rw [if_neg hlt]
            have hge:rows.length * sz≤i' * sz:=Nat.mul_le_mul_right _ (by omega)
            rw [List.getElem?_append_right (by rw [zbM];omega),zbM]
            have e3:i' * sz+j - rows.length * sz=(i' - rows.length) * sz+j:=by rw [Nat.sub_mul];omega
            rw [e3]
            exact zdu ws (by omega) hj
        rw [← hlen]
        refine .sl (rows++news) _ cp sz (fun i' j=>if i' < rows.length then vs i' j else ws (i' - rows.length) j) (by omega) (by omega) (fun h=>by cases h) (fun i' q hq=>?_) (fun i' q hq j x hx=>?_) (fun ad' h _=>by cases h;rfl) fun ad' h i' hi' j hj=>?_
        · by_cases hlt:i' < rows.length
          · rw [List.getElem?_append_left hlt] at hq;exact zbc hrs hq
          · rw [List.getElem?_append_right (by omega)] at hq;exact zbc hns hq
        · by_cases hlt:i' < rows.length
          · rw [List.getElem?_append_left hlt] at hq
            rw [if_pos hlt];exact (hval i' q hq j x hx).mono hSS hkp
          · rw [List.getElem?_append_right (by omega)] at hq
            rw [if_neg hlt];exact (hvalB _ q hq j x hx).mono hSS hkp
        · cases h
          rw [hlen] at hi'
          have hu:=hget i' j hi' hj
          have hlt:i' * sz+j < (rows.length+news.length) * sz:=by
            have:(i'+1) * sz≤(rows.length+news.length) * sz:=Nat.mul_le_mul_right _ hi'
            rw [Nat.add_mul] at this;omega
          refine ⟨.inr ⟨rfl,by simpa using hlt⟩,?_⟩
          simp only [Nat.zero_add]
          have h7:=ho'.cells (g:=g) rfl (i' * sz+j) _ hu
          rw [Addr.add_lit,Nat.zero_add] at h7
          exact h7
  | _=>subst hxv;cases hx
theorem zm4 (hT:Good X) {t ty e:TypeId} {k sz tot:Nat} {i ie:TyI} {rows news:List (List D)} (hr:Rel X γ T S w fr σ a) (hk:look σ k=some (.tok e sz)) {v xv:Value} (hv:RC γ T S w (.que k sz tot rows) v) (hx:RD S w (.sl news) xv)
    (hi:X.Ty t=some i) (hit:i.tag=2) (hie:i.elem=e) (he:X.Ty e=some ie) (hsz:ie.size=sz) (h1:sized sz rows=true) (h2:sized sz news=true) (hn:news≠[]) (hbd:(tot+news.length) * ie.bytes≤140737488355328) :
    ∃ (pre:List (List D)) (v1:Value) (w':World) (S':Nat→Nat→Prop),pre.length+(rows++news).length≤tot+news.length∧pre.all (fun q=>Nat.beq q.length sz)=true∧(Builtin.append_ #[t,t] ty #[v,xv]).run X.P w=.ok (tailV pre.length sz v1) w'∧(∃ xs',w'.ownsRow 0 e sz v1 (pre++(rows++news)).length xs')∧w.grownBy w' (T k).ownBlock∧Kp S w w'∧(∀ g,v1.ownBlock=some g→(T k).ownBlock=some g∨w.heap.size≤g)∧
      (∀ b o,S b o→S' b o)∧(∀ b o,S' b o→S b o∨(v1.ownBlock=some b∧b < w'.heap.size))∧(∀ g,v1.ownBlock=some g→ ∀ o,S' g o→o < (pre++(rows++news)).length * sz)∧RD S' w' (.sl (pre++(rows++news))) v1:=by
  obtain ⟨inf,d0,g1,g2,g3,g4,g5,g6,g7,g8,g9,g10⟩:=(hT t i hi).get
  obtain ⟨inf',d',g1',g2',g3',g4',g5',_⟩:=(hT e ie he).get
  rw [hit] at g10
  have hbp:=(hT e ie he).bpos
  have hpos:0 < sz:=by rw [← hsz];exact (hT e ie he).pos
  cases d0 with
  | slice el =>
    simp only [elemOfD] at g7
    rw [hie] at g7;subst g7
    have hzl:(if ie.agg=true then Value.agg ie.zero.toArray else ie.zero.headD undef).cells.size=sz:=by
      have hzl:=(hT el ie he).zlen
      split
      · simp [Value.cells,hzl,hsz]
      · have hp:=(hT el ie he).pos
        cases hz:ie.zero with
        | nil=>rw [hz] at hzl;simp at hzl;omega
        | cons u us =>
          have h1c:u.oneCell'=true:=by have:=(hT el ie he).z1;rw [hz] at this;simp only [List.all_cons,Bool.and_eq_true] at this;exact this.1
          rename_i hna
          simp only [List.headD_cons,cells1v h1c]
          have hsc:ie.size=1:=by
            have:=(hT el ie he).sca
            exact this (by simpa using hna)
          rw [← hsz,hsc];rfl
    have hgrow:∀ (b:Addr) (cap:Nat),RD S w (.sl rows) (.slice (some b) rows.length cap)→rows.length≤tot→cap < rows.length+news.length→v=.slice (some b) rows.length cap→ ∃ (pre:List (List D)) (v1:Value) (w':World) (S':Nat→Nat→Prop),pre.length+(rows++news).length≤tot+news.length∧pre.all (fun q=>Nat.beq q.length sz)=true∧(Builtin.append_ #[t,t] ty #[v,xv]).run X.P w=.ok (tailV pre.length sz v1) w'∧(∃ xs',w'.ownsRow 0 el sz v1 (pre++(rows++news)).length xs')∧w.grownBy w' (T k).ownBlock∧Kp S w w'∧(∀ g,v1.ownBlock=some g→(T k).ownBlock=some g∨w.heap.size≤g)∧
      (∀ b o,S b o→S' b o)∧(∀ b o,S' b o→S b o∨(v1.ownBlock=some b∧b < w'.heap.size))∧(∀ g,v1.ownBlock=some g→ ∀ o,S' g o→o < (pre++(rows++news)).length * sz)∧RD S' w' (.sl (pre++(rows++news))) v1:=fun b cap hrd hle hcap hve=>by
      have hbd':(rows.length+news.length) * ie.bytes≤140737488355328:=Nat.le_trans (Nat.mul_le_mul_right _ (by omega)) hbd
      obtain ⟨v',w',S',r1,r2,r3,r4,r5,r6,r7,r8,r9⟩:=zpR (P:=X.P) (t:=t) (ty:=ty) g2 g1' g5' (g3'.trans hsz) g4' hzl hpos hrd h1 hx h2 hn hcap hbd' hbp hr.st.lt
      refine ⟨[],v',w',S',by simp;omega,rfl,by rw [hve,List.length_nil,zem];exact r1,r2,⟨r3.os,r3.tape,r3.output,r3.size,fun b hb _=>r3.block b hb (by simp)⟩,r4,fun g hg=>.inr (r5 g hg),r6,r7,r8,r9⟩
    obtain ⟨pre,p1,p2,p3,p4⟩:=hv
    rcases p4 with p4 | ⟨p4,b,p5⟩
    · have hps:sized sz (pre++rows)=true:=by
        unfold sized at h1 ⊢
        rw [List.all_append,h1,p2];rfl
      have hbd':((pre++rows).length+news.length) * ie.bytes≤140737488355328:=Nat.le_trans (Nat.mul_le_mul_right _ (by rw [List.length_append];omega)) hbd
      obtain ⟨v1,w1,S1,r1,r2,r3,r4,r5,r6,r7,r8,r9⟩:=zdc (ty:=ty) hT hr hk (v:=T k) ⟨p3,rfl⟩ hx hi hit hie he hsz hps h2 hbd'
      obtain ⟨xs,f1,f2⟩:=zgN (rows:=pre++rows) (v:=T k) (hr.st.obj k _ hk) ⟨p3,rfl⟩
      have hll:(pre++rows).length=pre.length+rows.length:=List.length_append
      rcases f1.2 with ⟨e1,e2⟩ | ⟨g,cap,cur,e1,_,e3,e4,e5,e6,_⟩
      · have hp0:pre=[]:=List.eq_nil_of_length_eq_zero (by omega)
        subst hp0
        rw [List.length_nil,zem] at p4
        refine ⟨[],v1,w1,S1,by simp;simp at p1;omega,rfl,by rw [List.length_nil,zem,p4];exact r1,r2,r3,r4,r5,r6,r7,r8,r9⟩
      · have hv:v=.slice (some ⟨g,pre.length * sz,none⟩) rows.length (cap - pre.length):=by
          rw [p4,e1]
          simp only [tailV,Nat.zero_add]
          rw [hll,Nat.add_sub_cancel_left]
        by_cases hroom:pre.length+rows.length+news.length≤cap
        · cases hxv:xv with
          | slice B m0 m =>
            have hB:∃ ad,B=some ad:=by
              obtain ⟨B',m',ws,he,_,hnilB,_⟩:=hx.rows h2
              rw [hxv] at he
              injection he with e1 e2 e3
              cases B with
              | none=>exact absurd (hnilB e1.symm) hn
              | some ad=>exact ⟨ad,rfl⟩
            obtain ⟨ad,rfl⟩:=hB
            have hm0:m0=news.length:=by
              obtain ⟨B',m',ws,he,_⟩:=hx.rows h2
              rw [hxv] at he
              injection he
            subst hm0
            rw [hxv] at hx r1
            obtain ⟨ws,hvalB,hcellsB,honeB⟩:=zeO hx h2
            have hs':inf'.size=sz:=g3'.trans hsz
            have hfl:=zbM news.length sz ws
            have hfit:(pre.length+rows.length) * sz+news.length * sz≤cur.size:=by rw [e6,← Nat.add_mul];exact Nat.mul_le_mul_right _ hroom
            have ea:pre.length * sz+rows.length * sz=(pre.length+rows.length) * sz:=(Nat.add_mul _ _ _).symm
            have rA:=zjJ (P:=X.P) w t ty el inf' g2 g1' g 0 (pre++rows).length cap cur e3 ad news.length m _ (by rw [hfl,hs']) hcellsB honeB (by rw [hll];exact hroom) (by rw [hll,hfl,hs',Nat.zero_add];exact hfit)
            have rB:=zjJ (P:=X.P) w t ty el inf' g2 g1' g (pre.length * sz) rows.length (cap - pre.length) cur e3 ad news.length m _ (by rw [hfl,hs']) hcellsB honeB (by omega) (by rw [hfl,hs',ea];exact hfit)
            rw [e1,rA] at r1
            injection r1 with q1 q2
            refine ⟨pre,v1,w1,S1,by rw [List.length_append];omega,p2,?_,by rw [← List.append_assoc];exact r2,r3,r4,r5,r6,r7,by rw [← List.append_assoc];exact r8,by rw [← List.append_assoc];exact r9⟩
            rw [hv,rB,← q1,← q2]
            simp only [tailV,Nat.zero_add,hs',hll,ea]
            congr 2
            omega
          | _=>subst hxv;cases hx
        · exact hgrow _ _ (by rw [← hv,p4];exact RD.tail p2 p3) (by omega) (by omega) hv
    · subst p4
      exact hgrow b 0 (by
        have hq:=RC.que_rows (γ:=γ) (tot:=tot) ⟨pre,p1,p2,p3,.inr ⟨rfl,b,p5⟩⟩
        rw [p5] at hq;exact hq) (Nat.zero_le _) (by have:=List.length_pos_iff.2 hn;simp;omega) (by rw [p5];rfl)
  | _=>simp [tagOf] at g10
theorem zpF (hT:Good X) {s x:Operand} {t e:TypeId} {k d sz tot:Nat} {i ie:TyI} {rows news rows':List (List D)} (hw:wantA ops o fr=some true) (hdst:o.dst=some d) (hd:Nat.blt d X.nt=true) (ho:o.op=.call { callee:=.builtin .append,args := #[s,x],argTypes := #[t,t] })
    (hs:ev fr s=some (.one (.que k sz tot rows))) (hk:look σ k=some (.tok e sz)) (hx:(ev fr x).bind rowsV=some news) (hi:X.Ty t=some i) (hit:i.tag=2) (hie:i.elem=e) (he:X.Ty e=some ie) (hsz:ie.size=sz)
    (h1:sized sz rows=true) (h2:sized sz news=true) (hn:news≠[]) (hbd:(tot+news.length) * ie.bytes≤140737488355328) (hr':rows++news=rows')
    (h:RL X ops rest ((d,.one (.que k sz (tot+news.length) rows')) :: stripF k fr) ((k,.tok e sz) :: stripS k ((k,.junk) :: σ)) Q):RL X ops (o :: rest) fr σ Q :=
  ⟨fun γ T S w a K hr hkk=>wpList_step fun K' hK=>by
    subst hr'
    rw [if_pos (zam hr hw)]
    have hv:=zae hr hs
    cases hv with
    | one hv =>
      obtain ⟨xv,hx1,hx2⟩:=Option.bind_eq_some_iff.1 hx
      obtain ⟨pre,v1,w',S',a1,a2,r1,r2,r3,r4,r5,r6,r7,r8,r9⟩:=zm4 (ty:=o.type) hT hr hk hv (zaR hx2 (zae hr hx1)) hi hit hie he hsz h1 h2 hn hbd
      obtain ⟨q1,q2⟩:=hr.append (d:=k) (rows':=pre++(rows++news)) hk r2 r3 r4 r5 r6 r7 r8 r9
      have q3:=h.out γ _ S' w' _ K (q1.put (dst:=some d) (show inF X.nt (some d)=true from hd) (.one ⟨pre,a1,a2,by rw [zaq];exact r9,.inl (by rw [zaq])⟩)) hkk
      unfold Oper.wp
      rw [zbA ho r1]
      rw [← hdst] at q3
      exact hK _ _ q3⟩
theorem zpB (hT:Good X) {x l:Operand} {t:TypeId} {k d sz tot:Nat} {i ie:TyI} {r:List D} {rows:List (List D)} (hw:wantA ops o fr=some true) (hdst:o.dst=some d) (hd:Nat.blt d X.nt=true) (ho:o.op=.slice t x (some l) none none)
    (hx:ev fr x=some (.one (.que k sz tot (r :: rows)))) (hl:ev fr l=some (.one (.d (.v (.int .i64 1))))) (hi:X.Ty t=some i) (hit:i.tag=2) (he:X.Ty i.elem=some ie) (hsz:ie.size=sz) (hrl:r.length=sz)
    (h:RL X ops rest ((d,.one (.que k sz tot rows)) :: fr) σ Q):RL X ops (o :: rest) fr σ Q :=
  ⟨fun γ T S w a K hr hkk=>wpList_step fun K' hK=>by
    rw [if_pos (zam hr hw)]
    have hv:=zae hr hx
    have hlv:a.eval l=.int .i64 1:=zaw (zae hr hl)
    obtain ⟨inf,d0,e1,e2,e3,e4,e5,e6,e7,e8,e9,e10⟩:=(hT t i hi).get
    obtain ⟨inf',d',e1',e2',e3',_⟩:=(hT _ ie he).get
    rw [hit] at e10
    cases d0 with
    | slice el =>
      simp only [elemOfD] at e7
      subst e7
      have hszr:(sizeOf i.elem).run X.P w=.ok sz w:=by rw [← hsz,← e3'];exact zaP e1' w
      generalize hev:a.eval x=v at hv
      cases hv with
      | one hv =>
        obtain ⟨pre,p1,p2,p3,p4⟩:=hv
        rcases p4 with p4 | ⟨p4,_⟩
        · generalize hTk:T k=V at p3 p4
          cases p3 with
          | sl _ A c sz' vs cap lim nil row val spot mem =>
            cases A with
            | none=>have:=nil rfl;simp at this
            | some ad =>
              have hll:(pre++r :: rows).length=pre.length+(rows.length+1):=by simp
              have hb:=zc6 X.P w (rows.length+1) (c - pre.length) (some (.int .i64 1)) none 1 (rows.length+1:Nat) (.inr ⟨.i64,rfl⟩) (.inl ⟨rfl,rfl⟩) (by decide) (by omega) (Int.le_refl _) (by rw [hll] at cap;omega) true
              have hv':v=.slice (some { ad with off:=ad.off+pre.length * sz }) (rows.length+1) (c - pre.length):=by
                rw [p4]
                simp only [tailV]
                rw [hll,Nat.add_sub_cancel_left]
              have hex:(execOp a.eval o).run X.P w=.ok (.value (.slice (if c - pre.length=1 then some { ad with off:=ad.off+pre.length * sz } else (some { ad with off:=ad.off+pre.length * sz }).map (·.add (1 * sz))) (rows.length+1 - 1) (c - pre.length - 1))) w:=by
                simp only [execOp,ho,hev,hv',hlv,Instr.sliceAt,Instr.slice,Sem.run_bind,run_underlying e2,Result.andThen_ok,hb,hszr,Sem.run_pure,Option.map_none,Option.map_some]
                rfl
              unfold Oper.wp
              rw [hex]
              refine hK _ _ (h.out γ T S w _ K ?_ hkk)
              rw [hdst]
              refine hr.put (dst:=some d) hd (.one ⟨pre++[r],by simp at p1 ⊢;omega,by rw [List.all_append,p2];simp [hrl],by rw [hTk];simpa using RD.sl (pre++r :: rows) (some ad) c sz' vs cap lim nil row val spot mem,?_⟩)
              by_cases hc:c - pre.length=1
              · rw [if_pos hc]
                have hr0:rows=[]:=List.eq_nil_of_length_eq_zero (by rw [hll] at cap;omega)
                subst hr0
                exact .inr ⟨rfl,_,by rw [hc];rfl⟩
              · rw [if_neg hc]
                refine .inl ?_
                rw [hTk]
                have hsp:=spot ad rfl (by rw [hll];omega)
                obtain ⟨b,off,sp⟩:=ad
                simp only at hsp
                subst hsp
                simp only [tailV,Option.map_some,Addr.add,List.length_append,List.length_cons,List.length_nil,Nat.zero_add]
                have q1:off+pre.length * sz+1 * sz=off+(pre.length+1) * sz:=by rw [Nat.add_mul];omega
                have q2:pre.length+(rows.length+1) - (pre.length+1)=rows.length+1 - 1:=by omega
                have q3:c - (pre.length+1)=c - pre.length - 1:=by omega
                rw [q1,q2,q3]
                split
                · rename_i h0
                  have h0':sz=0:=by omega
                  subst h0'
                  simp
                · rfl
        · cases p4
    | _=>simp [tagOf] at e10⟩
theorem zpu {cd:Code} {QQ:Exit→Fr→Obs→Prop} (tot k j:Nat) (e:TypeId) (sz:Nat) {ty:TypeId} {x:Value} (hk:look σ k=some (.cell ty (.d (.v x)))) (hx:isNil x=true) (hkj:k≠j) (h:W X cd (stripF j fr) ((k,.cell ty (.que j sz tot [])) :: (j,.tok e sz) :: stripS j σ) QQ):W X cd fr σ QQ :=
  ⟨fun γ T S w a hr=>by
    refine h.out γ (setK T j (.slice Option.none 0 0)) S w a ?_
    obtain ⟨u,hu1,hu2,hu3,hu4,hu5,hu6⟩:=hr.st.obj k _ hk
    have hu:u=.slice Option.none 0 0:=by
      cases hu2 with|v _ _=>exact zb5 hx
    obtain ⟨⟨keep,lt,nlt,set,mon,obj,dis⟩,hfr,hn,hd⟩:=hr.nil_ j e sz
    have hold:look ((j,Ob.tok e sz) :: stripS j σ) k=some (.cell ty (.d (.v x))):=by
      simp only [look]
      rw [if_neg (Ne.symm hkj),zar,hk,Option.map_some,if_neg hkj];rfl
    refine ⟨⟨keep,lt,nlt,set,mon,fun i ob hi=>?_,fun i i' ob ob' hi hi' hne b hb=>?_⟩,hfr,hn,hd⟩
    · rw [zap] at hi
      split at hi
      · rename_i e2
        injection hi with hi;subst hi;subst e2
        exact ⟨u,hu1,⟨[],Nat.zero_le _,rfl,by rw [zaq];exact RD.nil_,.inl (by rw [zaq,hu];rfl)⟩,hu3,hu4,hu5,hu6⟩
      · exact obj i ob hi
    · have hm:∀ i ob,look ((k,Ob.cell ty (.que j sz tot [])) :: (j,Ob.tok e sz) :: stripS j σ) i=some ob→ ∃ ob0,look ((j,Ob.tok e sz) :: stripS j σ) i=some ob0∧ ∀ b,fp γ (setK T j (.slice Option.none 0 0)) i ob b→fp γ (setK T j (.slice Option.none 0 0)) i ob0 b:=fun i ob hi=>by
        rw [zap] at hi
        split at hi
        · rename_i e2;injection hi with hi;subst hi;subst e2;exact ⟨_,hold,fun _ h=>h⟩
        · exact ⟨ob,hi,fun _ h=>h⟩
      obtain ⟨ob0,g1,g2⟩:=hm i ob hi
      obtain ⟨ob1,g3,g4⟩:=hm i' ob' hi'
      exact fun hb'=>dis i i' ob0 ob1 g1 g3 hne b (g2 b hb) (g4 b hb')⟩
end
section
variable {w0:W0} {S0:Nat→Nat→Prop} {nt:Nat} {fr fr1:Fr} {σ σ1:Obs} {o:Oper} {ops:Array Oper} {rest:List Oper} {d k:Nat} {t:TypeId} {i:TyI} {Q:Fr→Obs→Prop}
theorem uApq {sz tot n1:Nat} {rows news rows':List (List D)} {e:TyI} {s xx:Operand} {el:TypeId} (h:RL (cx nt w0 S0) ops rest ((d,.one (.que k sz n1 rows')) :: fr1) ((k,.tok el sz) :: σ1) Q) (ho:o.op=.call { callee:=.builtin .append,args := #[s,xx],argTypes := #[t,t] }:=by rfl) (hdst:o.dst=some d:=by rfl) (hd:Nat.blt d nt=true:=by rfl) (hw:wantA ops o fr=some true:=by rfl)
    (hs:ev fr s=some (.one (.que k sz tot rows)):=by rfl) (hk:look σ k=some (.tok el sz):=by rfl) (hx:(ev fr xx).bind rowsV=some news:=by rfl) (hi:Ty t=some i:=by rfl) (hit:i.tag=2:=by rfl) (hie:i.elem=el:=by rfl) (he:Ty el=some e:=by rfl) (hsz:e.size=sz:=by rfl)
    (h1:sized sz rows=true:=by first|rfl|exact zaY _|exact zai _|exact zaU _|assumption|exact zaK _ (zai _)|exact zaJ _ (zai _)|exact zah (by assumption) rfl|exact zah (zah rfl (zai _)) rfl|exact zah rfl (zai _)|(simp only [sized,List.all_append,List.all_cons,List.all_nil,List.all_map,Bool.and_true,Bool.and_self,zal];rfl)|(simp [sized,zal,encS];done)|simp [sized,zan]) (h2:sized sz news=true:=by first|rfl|exact zaY _|exact zai _|exact zaU _|assumption|exact zaK _ (zai _)|exact zaJ _ (zai _)|exact zah (by assumption) rfl|exact zah (zah rfl (zai _)) rfl|exact zah rfl (zai _)|(simp only [sized,List.all_append,List.all_cons,List.all_nil,List.all_map,Bool.and_true,Bool.and_self,zal];rfl)|(simp [sized,zal,encS];done)|simp [sized,zan]) (hn:news≠[]:=by simp) (hbd:(tot+news.length) * e.bytes≤140737488355328:=by first|decide|(simp only [List.length_map,List.length_append,List.length_take,List.length_drop,List.length_cons,List.length_nil];omega)) (hr':rows++news=rows':=by first|assumption|rfl) (hn1:tot+news.length=n1:=by first|assumption|rfl)
    (hf:stripF k fr=fr1:=by exact strxA) (hσ:stripS k ((k,.junk) :: σ)=σ1:=by exact strxA):RL (cx nt w0 S0) ops (o :: rest) fr σ Q :=
  zpF (X:=cx nt w0 S0) zad hw hdst hd ho hs hk hx hi hit hie he hsz h1 h2 hn hbd hr' (hf ▸ hσ ▸ hn1 ▸ h)
theorem wNilq {cd:Code} {QQ:Exit→Fr→Obs→Prop} (tot k j:Nat) (e:TypeId) (sz:Nat) {ty:TypeId} {x:Value} (h:W (cx nt w0 S0) cd fr1 ((k,.cell ty (.que j sz tot [])) :: (j,.tok e sz) :: σ1) QQ) (hk:look σ k=some (.cell ty (.d (.v x))):=by rfl) (hx:isNil x=true:=by rfl) (hkj:k≠j:=by decide) (hf:stripF j fr=fr1:=by exact strxA) (hs:stripS j σ=σ1:=by exact strxA):W (cx nt w0 S0) cd fr σ QQ :=
  zpu tot k j e sz hk hx hkj (hf ▸ hs ▸ h)
theorem uSlq {sz tot:Nat} {r:List D} {rows:List (List D)} {ie:TyI} {xx l:Operand} (h:RL (cx nt w0 S0) ops rest ((d,.one (.que k sz tot rows)) :: fr) σ Q) (ho:o.op=.slice t xx (some l) none none:=by rfl) (hw:wantA ops o fr=some true:=by rfl) (hdst:o.dst=some d:=by rfl) (hd:Nat.blt d nt=true:=by rfl)
    (hx:ev fr xx=some (.one (.que k sz tot (r :: rows))):=by rfl) (hl:ev fr l=some (.one (.d (.v (.int .i64 1)))):=by rfl) (hi:Ty t=some i:=by rfl) (hit:i.tag=2:=by rfl) (he:Ty i.elem=some ie:=by rfl) (hsz:ie.size=sz:=by rfl) (hrl:r.length=sz:=by rfl):RL (cx nt w0 S0) ops (o :: rest) fr σ Q :=
  zpB (X:=cx nt w0 S0) zad hw hdst hd ho hx hl hi hit he hsz hrl h
end
end Go.Proofs.YtiplihojmfbjkaaGreat
