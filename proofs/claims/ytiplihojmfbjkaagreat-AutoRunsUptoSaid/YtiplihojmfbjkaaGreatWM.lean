/- One step of a walk: which law it takes is found by the step itself. -/
import Derived.Test.YtiplihojmfbjkaaGreatMC
import Derived.Test.YtiplihojmfbjkaaGreatWG
import Derived.Test.YtiplihojmfbjkaaGreatWI
import Derived.Lib.SliceRun
import Derived.Lib.SlicesCompact
set_option maxRecDepth 100000
namespace Go.Proofs.YtiplihojmfbjkaaGreat
open Go.RowKit
theorem nxD {P Q:Prop} (k:Q) (h:Q→P:=by first|((refine fun k=>isD ?_);first|exact mMv k|exact mAs k|exact mO k|(refine imBin ?_;first|exact mIb k|exact mCat k|exact mBb true k|exact mBb false k|exact mP k|exact mEq true k|exact mEq false k)|(refine imLd ?_;first|exact mLp k|exact mLb k|exact mL1 k|exact mL2 k|exact mP k)|(refine imCl ?_;first|exact mP k|exact mA k|exact mA0 k)|(refine imFa ?_;first|exact mP k)|(refine imBd ?_;first|exact mBd k|exact mP k)|(refine imSl ?_;first|exact mHm k|exact mHd k|exact mP k|exact mH k)|exact mX k|exact mBu true k|exact mBu false k|exact mBs k|exact mSx k|exact mNp k|exact mP k|exact mAl k|exact mSt k)|((refine fun k=>mN ?_);(first|change W _ _ _ _ _|change EndQ _ _ _ _ _ _|change EndG _ _ _ _ _ _ _ _ _ _|change EndM _ _ _ _ _ _ _|change EndN _ _ _ _ _ _|change Exists _|skip);exact k)):P:=h k
theorem nxU {P Q:Prop} (k:Q) (h:Q→P:=by first|exact fun k=>zeo k|exact fun k=>zey k|((refine fun k=>?_);(first|refine zge ?_|refine zh0 ?_|refine zh2 ?_|refine zkn ?_);(first|change W _ _ _ _ _|change EndQ _ _ _ _ _ _|change EndG _ _ _ _ _ _ _ _ _ _|change EndM _ _ _ _ _ _ _|change EndN _ _ _ _ _ _|change Exists _|skip);exact k)|((refine fun k=>isRL ?_);first|exact uMv k|exact uAs k|exact uO k|(refine isBin ?_;first|exact uIb k|exact uCat k|exact uBb true k|exact uBb false k|exact uP k|exact uEq true k|exact uEq false k)|(refine isLd ?_;first|exact uLp k|exact uLb k|exact uL1 k|exact uL2 k|exact uP k)|(refine isCl ?_;first|exact uP k|exact uAk k|exact uA k|exact uA0 k|exact uWl k)|(refine isFa ?_;first|exact uP k)|(refine isBd ?_;first|exact uBd k|exact uP k)|(refine isSl ?_;first|exact uHm k|exact uHd k|exact uP k|exact uH k)|(refine isSt ?_;first|exact uSw k|exact uS k|exact uSc k|exact uSo k)|exact uX k|exact uBu true k|exact uBu false k|exact uBs k|exact uSx k|exact uNp k|exact uP k|exact uBx k|exact uN k|exact uON k)|exact fun k=>zgT k|exact fun k=>wT fun _=>k|exact fun k=>wF fun _=>k|exact fun k=>nxD k):P:=h k
theorem nx {P Q:Prop} (k:Q) (h:Q→P:=by first|exact fun k=>nxU k|exact fun k=>uAnyL k|exact fun k=>uAny k):P:=h k
theorem nx2 {P Q R:Prop} (k:Q) (l:R) (h:Q→R→P:=by first|exact fun k l=>uGsD k l|exact fun k l=>uGsE k l|exact fun k l=>uGsN k l|exact fun k l=>uGsND k l|exact fun k l=>uGsNE k l|exact fun k l=>uGsNB k l|exact fun k l=>uGs k l|exact fun k l=>wCsD k l|exact fun k l=>wCsE k l|exact fun k l=>wCsN k l|exact fun k l=>wCsND k l|exact fun k l=>wCsNE k l|exact fun k l=>wCsNB k l|exact fun k l=>wCs k l):P:=h k l
end Go.Proofs.YtiplihojmfbjkaaGreat
namespace Go.Proofs.YtiplihojmfbjkaaGreat
open Go.RowKit
set_option maxHeartbeats 16000000
section
variable {X:Ctx} {γ:Nat→Nat} {T:Nat→Value} {S:Nat→Nat→Prop} {w w':World} {fr:Fr} {σ:Obs} {a:Act} {o:Oper} {ops:Array Oper} {rest:List Oper} {Q:Fr→Obs→Prop} {d k lo n c:Nat} {t el:TypeId} {i e:TyI} {xx ix p:Operand} {L:List ByteArray}
theorem zlm (hT:Good X) {z:Int} (hr:Rel X γ T S w fr σ a) (ho:o.op=.indexAddr t xx ix) (h1:ev fr xx=some (.one (.win k lo n c 1))) (h2:(ev fr ix).bind intV=some z) (h0:0≤z) (hlt:z < n) (hi:X.Ty t=some i) (htag:i.tag=2) (he:X.Ty i.elem=some e) (hsz:e.size=1) :
    ∃ v,(execOp a.eval o).run X.P w=.ok (.value v) w∧RV γ T S w (.one (.pe k (lo+z.toNat) 0 1)) v:=by
  obtain ⟨nv,hn1,hn2⟩:=Option.bind_eq_some_iff.1 h2
  obtain ⟨kk,hk⟩:=zcd hn2 (zae hr hn1)
  obtain ⟨inf,d0,g1,g2,g3,g4,g5,g6,g7,g8,g9,g10⟩:=(hT t i hi).get
  obtain ⟨inf',d',g1',g2',g3',_⟩:=(hT _ e he).get
  rw [htag] at g10
  cases d0 with
  | slice elt =>
    simp only [elemOfD] at g7
    subst g7
    have hv:=zae hr h1
    cases hv with
    | one hv =>
      have hev:a.eval xx=.slice (some ⟨γ k,lo * 1,none⟩) n c:=hv
      refine ⟨.pointer (some ⟨γ k,lo * 1+z.toNat * e.size,none⟩),?_,.one (by simp only [RC,hsz,Nat.add_mul,Nat.add_zero])⟩
      simp only [execOp,ho,hev,hk,Instr.indexAt,asIntOf,Sem.run_bind,Sem.run_pure,run_underlying g2,Result.andThen_ok]
      rw [if_pos ⟨h0,hlt⟩]
      simp only [Sem.run_bind,zaP g1',Result.andThen_ok,Sem.run_pure,Addr.add_lit,g3']
  | _=>simp [tagOf] at g10
theorem zpv (hT:Good X) {z:Int} (hw:wantA ops o fr=some true) (hdst:o.dst=some d) (hd:Nat.blt d X.nt=true) (ho:o.op=.indexAddr t xx ix) (h1:ev fr xx=some (.one (.win k lo n c 1))) (h2:(ev fr ix).bind intV=some z) (h0:0≤z) (hlt:z < n) (hi:X.Ty t=some i) (htag:i.tag=2) (he:X.Ty i.elem=some e) (hsz:e.size=1)
    (h:RL X ops rest ((d,.one (.pe k (lo+z.toNat) 0 1)) :: fr) σ Q):RL X ops (o :: rest) fr σ Q :=
  ⟨fun γ T S w a K hr hk=>wpList_step fun K' hK=>by
    rw [if_pos (zam hr hw)]
    obtain ⟨v,e1,e2⟩:=zlm hT hr ho h1 h2 h0 hlt hi htag he hsz
    unfold Oper.wp
    rw [e1]
    refine hK _ _ (h.out γ T S w _ K ?_ hk)
    rw [hdst]
    exact hr.put (dst:=some d) hd e2⟩
variable {τ0 σB:Obs} {KK:List Cr} {C:Cons} {QD:Fr→Obs→Prop} {j:Nat}
theorem zpn {yy:Operand} {t2:TypeId} {rows:List (List D)} (hP:X.P=Tryz.prog) (hw:wantA ops o fr=some true) (hdst:o.dst=some d) (hd:Nat.blt d X.nt=true) (ho:o.op=.binOp .eql 79 xx yy t2) (hx:(ev fr xx).bind rowsV=some rows) (hy:ev fr yy=some (.one (.d (.v (.slice none 0 0)))))
    (h:∀ b:Bool,(rows≠[]→b=false)→RL X ops rest ((d,vB b) :: fr) σ Q):RL X ops (o :: rest) fr σ Q :=
  ⟨fun γ T S w a K hr hk=>wpList_step fun K' hK=>by
    rw [if_pos (zam hr hw)]
    obtain ⟨xv,hx1,hx2⟩:=Option.bind_eq_some_iff.1 hx
    have hrd:=zaR hx2 (zae hr hx1)
    have hyv:=zaw (zae hr hy)
    generalize hev:a.eval xx=u at hrd
    cases hrd with
    | sl _ A c sz vs cap lim nil row val spot mem =>
      have hexec:(execOp a.eval o).run X.P w=.ok (.value (.bool A.isNone)) w:=by
        rw [hP]
        have hq:=Go.Lib.run_eql_slice_nil (P:=Tryz.prog) w 79 9 A rows.length c 0 0 Tryz.underlying79
        simp only [execOp,ho,hev,hyv,eqGuard,Sem.run_bind,Sem.run_pure]
        simp
        rw [hq];rfl
      unfold Oper.wp
      rw [hexec]
      refine hK _ _ ((h A.isNone fun hne=>?_).out γ T S w _ K ?_ hk)
      · cases A with
        | none=>exact absurd (nil rfl) hne
        | some ad=>rfl
      · rw [hdst]
        exact hr.put (dst:=some d) hd (.one (.v _ rfl))⟩
end
end Go.Proofs.YtiplihojmfbjkaaGreat
namespace Go.Proofs.YtiplihojmfbjkaaGreat
open Go.RowKit Go.Sort
structure CompG (P:Program) (f:FuncId):Prop where
  ent:Enters P f
  out:∀ (blk off cap:Nat) (zs:List (List UInt8)) (w:World),Holds encStr w blk off zs.toArray→zs.length≤9223372036854775807→zs.length≤cap→
    Calls P f #[.slice (some ⟨blk,off,none⟩) zs.length cap] w fun e w'=>e=.returned (.slice (some ⟨blk,off,none⟩) (Go.Lib.compact zs).length cap)∧ ∃ q,w'=putRow encStr (Sort.ahead w q) blk off (Go.Lib.compact zs++List.replicate (zs.length - (Go.Lib.compact zs).length) []).toArray
  none:∀ (p:Option Addr) (cap:Nat) (w:World),Calls P f #[.slice p 0 cap] w fun e w'=>e=.returned (.slice p 0 cap)∧w'=w
def compN (l:List ByteArray):Nat:=(Go.Lib.compact (l.map bytesL)).length
section
variable {X:Ctx} {γ:Nat→Nat} {T:Nat→Value} {S S':Nat→Nat→Prop} {w w':World} {fr:Fr} {σ:Obs} {a:Act} {o:Oper} {ops:Array Oper} {rest:List Oper} {Q:Fr→Obs→Prop}
theorem ziV {d:Nat} {v:Value} (h:d < a.tmps.size):(a.put (some d) v).eval (.tmp d)=v:=by
  show (a.tmps.setIfInBounds d v).getD d undef=v
  rw [Array.getD_eq_getD_getElem?,Array.getElem?_setIfInBounds]
  simp [h]
theorem zkO {base g q:Nat} {w1:World} {d:Array (List UInt8)} (hb:Below base w w1) (hg:base≤g):Below base w (putRow encStr (Sort.ahead w1 q) g 0 d):=by
  refine ⟨hb.os,hb.tape,hb.output,by simpa using hb.size,fun k hk=>?_⟩
  have:g≠k:=by omega
  have h2:=hb.block k hk
  simp only [putRow,mapBlock,Sort.ahead,Array.getElem?_modify,if_neg this]
  exact h2
theorem zqh (hT:Good X) {o1 o2 o3:Oper} {d1 d2 d3:Nat} {f1 f2:FuncId} {xs1:Array Operand} {ats1 ats2:Array TypeId} {args:List VV} {e t:TypeId} {i:TyI} {l:List ByteArray}
    (hw1:wantA ops o1 fr=some true) (hd1:o1.dst=some d1) (hb1:Nat.blt d1 X.nt=true) (ho1:o1.op=.call { callee:=.value (.func f1),args:=xs1,argTypes:=ats1 }) (ha:argsL fr xs1.toList=some args) (hc1:CallsV X.P f1 args (.own e 1 (l.map encS)))
    (hw2:wantA ops o2 ((d1,.junk) :: fr)=some true) (hd2:o2.dst=some d2) (hb2:Nat.blt d2 X.nt=true) (ho2:o2.op=.call { callee:=.value (.func f2),args := #[.tmp d1],argTypes:=ats2 }) (hc2:CompG X.P f2)
    (hw3:wantA ops o3 ((d2,.junk) :: (d1,.junk) :: fr)=some true) (hd3:o3.dst=some d3) (hb3:Nat.blt d3 X.nt=true) (ho3:o3.op=.call { callee:=.builtin .len,args := #[.tmp d2],argTypes := #[t] }) (hi:X.Ty t=some i) (htag:i.tag=2)
    (h:RL X ops rest ((d3,vI (compN l:Int)) :: (d2,.junk) :: (d1,.junk) :: fr) σ Q):RL X ops (o1 :: o2 :: o3 :: rest) fr σ Q :=
  ⟨fun γ T S w a K hr hk=>wpList_step fun K1 hK1=>by
    rw [if_pos (zam hr hw1)]
    unfold Oper.wp
    rw [zbs ho1,hc1.ent]
    refine (hc1.out S w _ (zbg hr ha) hr.st.lt).mono fun ex w1 he=>?_
    obtain ⟨v1,S1,rfl,hb,hS,hS',hv⟩:=he
    obtain ⟨hrd,n,ys,hown,_⟩:=hv
    have r1:Rel X γ T S w1 ((d1,.junk) :: fr) σ (a.put o1.dst v1):=by
      rw [hd1];exact (hr.grow hb (fun _ _ h=>h) (fun _ _ h=>.inl h)).put (dst:=some d1) hb1 (.junk _)
    refine hK1 _ _ (wpList_step fun K2 hK2=>?_)
    rw [if_pos (zam r1 hw2)]
    have hev1:(a.put o1.dst v1).eval (.tmp d1)=v1:=by
      rw [hd1];exact ziV (by rw [hr.nt];simpa [Nat.blt_eq] using hb1)
    -- the third operation
    have third:∀ (v2:Value) (w2:World),Below w.heap.size w w2→(∃ A c,v2=.slice A (compN l) c)→K2 ((a.put o1.dst v1).put o2.dst v2) w2:=by
      rintro v2 w2 hbw ⟨A,c,rfl⟩
      have r2:Rel X γ T S w2 ((d2,.junk) :: (d1,.junk) :: fr) σ ((a.put o1.dst v1).put o2.dst (.slice A (compN l) c)):=by
        rw [hd1,hd2]
        exact ((hr.grow hbw (fun _ _ h=>h) (fun _ _ h=>.inl h)).put (dst:=some d1) hb1 (.junk _)).put (dst:=some d2) hb2 (.junk _)
      refine hK2 _ _ (wpList_step fun K3 hK3=>?_)
      rw [if_pos (zam r2 hw3)]
      obtain ⟨inf,d0,g1,g2,g3,g4,g5,g6,g7,g8,g9,g10⟩:=(hT t i hi).get
      rw [htag] at g10
      have hev2:((a.put o1.dst v1).put o2.dst (.slice A (compN l) c)).eval (.tmp d2)=.slice A (compN l) c:=by
        rw [hd2];exact ziV (by rw [r1.nt];simpa [Nat.blt_eq] using hb2)
      cases d0 with
      | slice el =>
        have hexec:(execOp ((a.put o1.dst v1).put o2.dst (.slice A (compN l) c)).eval o3).run X.P w2=.ok (.value (.int .i64 (compN l))) w2:=by
          simp [execOp,ho3,resolve,invoke,builtin,hev2,Builtin.len_,run_underlying g2,goInt]
        unfold Oper.wp
        rw [hexec]
        refine hK3 _ _ (h.out γ T S w2 _ K ?_ hk)
        rw [hd3]
        exact r2.put (dst:=some d3) hb3 (.one (.v _ rfl))
      | _=>simp [tagOf] at g10
    unfold Oper.wp
    have hargs:(([Operand.tmp d1]:List Operand).map (a.put o1.dst v1).eval).toArray = #[v1]:=by rw [List.map_singleton,hev1]
    rw [zbs ho2,hargs,hc2.ent]
    have hown0:w1.ownsRow 0 e 1 v1 n ys:=by
      refine ⟨hown.1,?_⟩
      rcases hown.2 with q3 | ⟨g,cap,cur,q3,_,q4⟩
      · exact .inl q3
      · exact .inr ⟨g,cap,cur,q3,Nat.zero_le _,q4⟩
    obtain ⟨hn,hys,_⟩:=zhT hrd hown0
    subst hn;subst hys
    rcases hown.2 with ⟨h1,h2⟩ | ⟨g,cap,cur,h1,hbase,hbk,h3,h4,h5,h6⟩
    · have hl0:l=[]:=List.length_eq_zero_iff.1 h2
      subst h1
      refine (hc2.none Option.none 0 w1).mono fun ex w' he=>?_
      obtain ⟨rfl,rfl⟩:=he
      exact third (.slice Option.none 0 0) w' hb ⟨Option.none,0,by subst hl0;rfl⟩
    · have hsl:(l.map bytesL).length=l.length:=List.length_map _
      have hH:Holds encStr w1 g 0 (l.map bytesL).toArray:=holds_of_block hbk (by rw [hsl,← h6,Nat.mul_one])
      have:=hc2.out g 0 cap (l.map bytesL) w1 hH (by rw [hsl];unfold maxLen at h4;omega) (by rw [hsl];exact h3)
      rw [hsl] at this
      subst h1
      refine this.mono fun ex w' he=>?_
      obtain ⟨rfl,q,rfl⟩:=he
      exact third (.slice (some ⟨g,0,Option.none⟩) (compN l) cap) _ (zkO hb hbase) ⟨_,_,rfl⟩⟩
end
section
variable {w0:W0} {S0:Nat→Nat→Prop} {nt:Nat} {fr fr1:Fr} {σ σ1:Obs} {o o1 o2 o3:Oper} {ops:Array Oper} {rest:List Oper} {Q:Fr→Obs→Prop} {d d1 d2 d3:Nat} {t:TypeId} {i:TyI}
theorem uCc {f1 f2:FuncId} {xs1:Array Operand} {ats1 ats2:Array TypeId} {args:List VV} {e:TypeId} (l:List ByteArray) (hc1:CallsV Tryz.prog f1 args (.own e 1 (l.map encS))) (hc2:CompG Tryz.prog f2) (h:RL (cx nt w0 S0) ops rest ((d3,vI (compN l:Int)) :: (d2,.junk) :: (d1,.junk) :: fr) σ Q)
    (ho1:o1.op=.call { callee:=.value (.func f1),args:=xs1,argTypes:=ats1 }:=by rfl) (ho2:o2.op=.call { callee:=.value (.func f2),args := #[.tmp d1],argTypes:=ats2 }:=by rfl) (ho3:o3.op=.call { callee:=.builtin .len,args := #[.tmp d2],argTypes := #[t] }:=by rfl) (ha:argsL fr xs1.toList=some args:=by rfl)
    (hd1:o1.dst=some d1:=by rfl) (hd2:o2.dst=some d2:=by rfl) (hd3:o3.dst=some d3:=by rfl) (hb1:Nat.blt d1 nt=true:=by rfl) (hb2:Nat.blt d2 nt=true:=by rfl) (hb3:Nat.blt d3 nt=true:=by rfl) (hw1:wantA ops o1 fr=some true:=by rfl) (hw2:wantA ops o2 ((d1,.junk) :: fr)=some true:=by rfl) (hw3:wantA ops o3 ((d2,.junk) :: (d1,.junk) :: fr)=some true:=by rfl)
    (hi:Ty t=some i:=by rfl) (htag:i.tag=2:=by rfl):RL (cx nt w0 S0) ops (o1 :: o2 :: o3 :: rest) fr σ Q :=
  zqh (X:=cx nt w0 S0) zad hw1 hd1 hb1 ho1 ha hc1 hw2 hd2 hb2 ho2 hc2 hw3 hd3 hb3 ho3 hi htag h
theorem uEn {xx yy:Operand} {t2:TypeId} {rows:List (List D)} (h:∀ b:Bool,(rows≠[]→b=false)→RL (cx nt w0 S0) ops rest ((d,vB b) :: fr) σ Q) (ho:o.op=.binOp .eql 79 xx yy t2:=by rfl) (hw:wantA ops o fr=some true:=by rfl) (hdst:o.dst=some d:=by rfl) (hd:Nat.blt d nt=true:=by rfl) (hx:(ev fr xx).bind rowsV=some rows:=by rfl) (hy:ev fr yy=some (.one (.d (.v (.slice none 0 0)))):=by rfl):RL (cx nt w0 S0) ops (o :: rest) fr σ Q :=
  zpn (X:=cx nt w0 S0) rfl hw hdst hd ho hx hy h
end
theorem zoB (l:List ByteArray) (hl:l.length≤1000000) (hne:l≠[]):CallsV Tryz.prog 114 [vL (l.map encS)] (.own 9 1 (l.map encS)):=by
  have hlm:(l.map encS).length=l.length:=List.length_map _
  have hz:sized 1 (l.map encS)=true:=zai l
  (refine zaa (Ty:=Ty) zad Tryz.func114 rfl rfl rfl fun w0 S0=>?_;refine enA ?_)
  repeat refine nx ?_
  refine uEn fun b hb=>?_
  obtain rfl:b=false:=hb (by simpa using hne)
  repeat refine nx ?_
  exact ⟨5,by rfl,by rfl⟩
theorem znC:CallsV Tryz.prog 114 [vL []] (.val (vL [])):=by
  (refine zaa (Ty:=Ty) zad Tryz.func114 rfl rfl rfl fun w0 S0=>?_;refine enA ?_)
  repeat refine nx ?_
  refine uEn fun b hb=>?_
  cases b with
  | true =>
    repeat refine nx ?_
    exact zab (by rfl) rfl
  | false =>
    repeat refine nx ?_
    exact zab (by rfl) rfl
theorem zkh:CallsV Tryz.prog 113 [vL []] (.val (vL [])):=by
  (refine zaa (Ty:=Ty) zad Tryz.func113 rfl rfl rfl fun w0 S0=>?_;refine enA ?_)
  repeat refine nx ?_
  exact zab (by rfl) rfl
end Go.Proofs.YtiplihojmfbjkaaGreat
