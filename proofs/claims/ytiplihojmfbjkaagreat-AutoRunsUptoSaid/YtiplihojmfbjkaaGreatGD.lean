/- Walks: lengths,by the program and by the document. -/
import Derived.Test.YtiplihojmfbjkaaGreatVC
import Derived.Test.YtiplihojmfbjkaaGreatN0
import Derived.Test.YtiplihojmfbjkaaGreatWM
import Derived.Test.YtiplihojmfbjkaaGreatEA
import Derived.Test.YtiplihojmfbjkaaGreatRows
import Derived.Test.YtiplihojmfbjkaaGreatG1
set_option maxRecDepth 100000
set_option maxHeartbeats 4000000
namespace Go.Proofs.YtiplihojmfbjkaaGreat
open Go.RowKit
set_option maxHeartbeats 16000000
def hiI:Option Nat→Int
  | some h=>h
  | none => -1
def encSp (s:Sp):List D:=[.v (.int .i64 s.low),.v (.int .i64 (hiI s.high))]
theorem zhQ {z:Int} {n:Nat} (h:z=n):(if (1000000:Int) < z then (1000000:Int) else z)=((sat n:Nat):Int):=by
  subst h;unfold sat;split<;>omega
abbrev di (n:Int):D:=.v (.int .i64 n)
theorem zow (a h b g:Int) (ha:0≤a∧a≤1000000) (hh : -1≤h∧h≤1000000) (hb:0≤b∧b≤1000000) (hg : -1≤g∧g≤1000000):CallsV Tryz.prog 135 [.dat [di a,di h],.dat [di b,di g]] (.val (.dat [di (if 1000000 < a+b then 1000000 else a+b),di (if 0≤h∧0≤g then (if 1000000 < h+g then 1000000 else h+g) else -1)])):=by
  (refine zaa (Ty:=Ty) zad Tryz.func135 rfl rfl rfl fun w0 S0=>?_;refine enA ?_)
  by_cases h1:0≤h
  · by_cases h2:0≤g
    · repeat refine nx ?_
      exact zab (by rfl) (by rw [if_pos (show 0≤h∧0≤g from ⟨h1,h2⟩)]<;>rfl)
    · repeat refine nx ?_
      exact zab (by rfl) (by rw [if_neg (show ¬ (0≤h∧0≤g) from fun h=>h2 h.2)]<;>rfl)
  · repeat refine nx ?_
    exact zab (by rfl) (by rw [if_neg (show ¬ (0≤h∧0≤g) from fun h=>h1 h.1)]<;>rfl)
theorem zoP (a h b g:Int):CallsV Tryz.prog 136 [.dat [di a,di h],.dat [di b,di g]] (.val (.dat [di (if b < a then b else a),di (if 0≤h∧0≤g then (if g > h then g else h) else -1)])):=by
  (refine zaa (Ty:=Ty) zad Tryz.func136 rfl rfl rfl fun w0 S0=>?_;refine enA ?_)
  by_cases h1:0≤h
  · by_cases h2:0≤g
    · repeat refine nx ?_
      exact zab (by rfl) (by rw [if_pos (show 0≤h∧0≤g from ⟨h1,h2⟩)]<;>rfl)
    · repeat refine nx ?_
      exact zab (by rfl) (by rw [if_neg (show ¬ (0≤h∧0≤g) from fun h=>h2 h.2)]<;>rfl)
  · repeat refine nx ?_
    exact zab (by rfl) (by rw [if_neg (show ¬ (0≤h∧0≤g) from fun h=>h1 h.1)]<;>rfl)
theorem zmg (a h l m:Int) (h1 : -9223372036854775808≤a * l) (h2:a * l≤100000000) (h3 : -9223372036854775808≤h * m) (h4:h * m≤100000000):CallsV Tryz.prog 134 [.dat [di a,di h],vI l,vI m] (.val (.dat [di (if 1000000 < a * l then 1000000 else a * l),di (if 0≤h∧0≤m then (if 1000000 < h * m then 1000000 else h * m) else -1)])):=by
  (refine zaa (Ty:=Ty) zad Tryz.func134 rfl rfl rfl fun w0 S0=>?_;refine enA ?_)
  by_cases h1:0≤h
  · by_cases h2:0≤m
    · repeat refine nx ?_
      exact zab (by rfl) (by rw [if_pos (show 0≤h∧0≤m from ⟨h1,h2⟩)]<;>rfl)
    · repeat refine nx ?_
      exact zab (by rfl) (by rw [if_neg (show ¬ (0≤h∧0≤m) from fun h=>h2 h.2)]<;>rfl)
  · repeat refine nx ?_
    exact zab (by rfl) (by rw [if_neg (show ¬ (0≤h∧0≤m) from fun h=>h1 h.1)]<;>rfl)
theorem zkE {P:Program} {f:FuncId} {args:List VV} {s:Sp} {a b:Int} (h:CallsV P f args (.val (.dat [di a,di b]))) (h1:a=s.low) (h2:b=hiI s.high):CallsV P f args (.val (.dat (encSp s))):=by subst h1;subst h2;exact h
theorem ziI {s:Sp} (h:OkS s) : -1≤hiI s.high∧hiI s.high≤1000000:=by
  unfold hiI
  split
  · rename_i a e;have:=h.2 a e;omega
  · decide
theorem zp4 (s t:Sp) (hs:OkS s) (ht:OkS t):CallsV Tryz.prog 135 [.dat (encSp s),.dat (encSp t)] (.val (.dat (encSp (andS s t)))):=by
  have:=zow s.low (hiI s.high) t.low (hiI t.high) (by have:=hs.1;omega) (ziI hs) (by have:=ht.1;omega) (ziI ht)
  refine zkE this ?_ ?_
  · exact zhQ (by simp)
  · unfold andS hiI andH
    cases s.high<;>cases t.high<;>simp only
    · rfl
    · rfl
    · rfl
    · rw [if_pos (by omega)];exact zhQ (by simp)
theorem or_v (s t:Sp):CallsV Tryz.prog 136 [.dat (encSp s),.dat (encSp t)] (.val (.dat (encSp (orS s t)))):=by
  have:=zoP s.low (hiI s.high) t.low (hiI t.high)
  refine zkE this ?_ ?_
  · show _=((min s.low t.low:Nat):Int)
    split<;>omega
  · unfold orS hiI orH
    cases s.high<;>cases t.high<;>simp only
    · rfl
    · rfl
    · rfl
    · rw [if_pos (by omega)];exact zkR _ _
theorem zoH (s:Sp) (hs:OkS s) (l m:Int) (hl:0≤l∧l≤20) (hm : -1≤m∧m≤20):CallsV Tryz.prog 134 [.dat (encSp s),vI l,vI m] (.val (.dat (encSp (timesS s l m)))):=by
  have e1:(s.low:Int) * l=((s.low * l.toNat:Nat):Int):=by rw [Int.natCast_mul,Int.toNat_of_nonneg hl.1]
  have e2:s.low * l.toNat≤1000000 * 20:=Nat.mul_le_mul hs.1 (by omega)
  have hq : -20000000≤hiI s.high * m∧hiI s.high * m≤20000000:=by
    have:=ziI hs
    generalize hiI s.high=x at this
    by_cases hx:x = -1
    · subst hx;omega
    · by_cases hm1:m = -1
      · subst hm1;omega
      · have h0:0≤x * m:=Int.mul_nonneg (by omega) (by omega)
        have h1:x * m≤1000000 * 20:=Int.mul_le_mul this.2 hm.2 (by omega) (by omega)
        omega
  have:=zmg s.low (hiI s.high) l m (by rw [e1];omega) (by rw [e1];omega) (by omega) (by omega)
  refine zkE this ?_ ?_
  · exact zhQ e1
  · unfold timesS hiI
    cases s.high with
    | none=>simp only [Option.map_none,ite_self];rfl
    | some h =>
      by_cases hm0:m < 0
      · simp only [if_pos hm0];rw [if_neg (by omega)]
      · simp only [if_neg hm0,Option.map_some]
        rw [if_pos (by omega)]
        exact zhQ (by rw [Int.natCast_mul,Int.toNat_of_nonneg (by omega)])
end Go.Proofs.YtiplihojmfbjkaaGreat
namespace Go.Proofs.YtiplihojmfbjkaaGreat
open Go.RowKit
theorem zdS {g:Sp→Sp→Sp} {l:List Pt} {k:Nat} {q:Pt} {b:Sp} (hq:l[k]?=some q):((l.take (k+1)).map lenP).foldl g b=g (((l.take k).map lenP).foldl g b) (lenP q):=by
  rw [List.take_add_one,hq,Option.toList_some,List.map_append,List.foldl_append];rfl
theorem ziv {g:Sp→Sp→Sp} (hg:∀ s t,OkS s→OkS t→OkS (g s t)):∀ (l:List Pt) (b:Sp),OkS b→OkS ((l.map lenP).foldl g b)
  | [],_,h=>h
  | x :: l,_,h=>ziv hg l _ (hg _ _ h (zbb x))
theorem zg3:∀ p:Pt,rightP p=true→CallsV Tryz.prog 88 [.dat (encP p)] (.val (.dat (encSp (lenP p)))):=Pt.ind fun p ih h=>by
  have hr:=zaF h
  have hlm:(p.kids.map encP).length=p.kids.length:=List.length_map _
  (refine zaa (Ty:=Ty) zad Tryz.func88 rfl rfl rfl fun w0 S0=>?_;refine enA ?_)
  by_cases k1:p.kind=1
  · repeat refine nx ?_
    exact zcg rfl rfl rfl rfl rfl rfl (by rw [zcz,if_pos k1];rfl)
  by_cases k2:p.kind=2
  · repeat refine nx ?_
    exact zcg rfl rfl rfl rfl rfl rfl (by rw [zcz,if_neg k1,if_pos k2];rfl)
  by_cases k5:p.kind=5
  · obtain ⟨⟨k,hk,hkr⟩,h1,h2,h3⟩:=zaI h k5
    have hQ:=ih k (by rw [hk];exact List.mem_cons_self) hkr
    have hT:=zoH (lenP k) (zbb k) p.min p.max ⟨h1,h2⟩ (by omega)
    have hk0:(p.kids.map encP)[Int.toNat 0]?=some (encP k):=by rw [hk];rfl
    repeat (first|(refine isCl ?_;first|refine uC (hQ) ?_|refine uC (hT) ?_)|(refine imCl ?_;first|refine mC (hQ) ?_|refine mC (hT) ?_)|refine nx ?_)
    exact zcg rfl rfl rfl rfl rfl rfl (by rw [zbY k5 hk])
  have k34:p.kind=3∨p.kind=4:=by have:=za7 h;omega
  obtain ⟨hne,_,_⟩:=zcl h k34
  obtain ⟨q0,rest,hks⟩:∃ q0 rest,p.kids=q0 :: rest:=by
    cases hc:p.kids with
    | nil=>exact absurd hc hne
    | cons a b=>exact ⟨a,b,rfl⟩
  have hQ0:=ih q0 (by rw [hks];exact List.mem_cons_self) (hr q0 (by rw [hks];exact List.mem_cons_self))
  have hk0:(p.kids.map encP)[Int.toNat 0]?=some (encP q0):=by rw [hks];rfl
  have hlen:p.kids.length=rest.length+1:=by rw [hks];rfl
  have hdrop:p.kids.drop (Int.toNat 1)=rest:=by rw [hks];rfl
  rcases k34 with k3|k4
  · repeat (first|refine uC (hQ0) ?_|refine mC (hQ0) ?_|refine nx ?_)
    rw [hdrop]
    refine zbm (t:=37) rfl rfl fun hlim=>?_
    have hlm2:(rest.map encP).length=rest.length:=List.length_map _
    refine zay (α:=Nat) (fun k=>[(2,.one (.po 2 0)),(3,.one (.fn 135 [])),(4,.one (.po 4 0)),(37,vL (rest.map encP)),(38,vI ((rest.map encP).length:Int)),(39,vI k)]) (fun k=>[(2,.box 159 [di 0,di 0]),(4,.box 159 (encSp (((rest.take k).map lenP).foldl andS (lenP q0))))]) (fun k=>k≤rest.length) (fun k=>rest.length - k) 0 (Nat.zero_le _) subA subA ?_
    intro k hk
    by_cases hlt:k < rest.length
    · obtain ⟨q,hq⟩:∃ q,rest[k]?=some q:=⟨_,List.getElem?_eq_getElem hlt⟩
      have hmem:q∈p.kids:=by rw [hks];exact List.mem_cons_of_mem _ (List.mem_of_getElem? hq)
      have hQ:=ih q hmem (hr q hmem)
      have hA:=zp4 (((rest.take k).map lenP).foldl andS (lenP q0)) (lenP q) (ziv (fun s t _ _=>zeF s t) _ _ (zbb q0)) (zbb q)
      have hnx:=zdS (g:=andS) (b:=lenP q0) hq
      repeat (first|(refine isCl ?_;first|refine uC (hQ) ?_|refine uDc (hA) ?_)|(refine imCl ?_;first|refine mC (hQ) ?_|refine mDc (hA) ?_)|refine nx ?_)
      rw [← hnx]
      exact ⟨k+1,by omega,hlt,subA,subA⟩
    · have hkl:k=rest.length:=by omega
      subst hkl
      rw [List.take_length]
      repeat refine nx ?_
      exact zcg rfl rfl rfl rfl rfl rfl (by rw [zd0 k3,hks,List.map_cons,zbB _ (zbb q0),zc2 _ _ (zbb q0)])
  · repeat (first|refine uC (hQ0) ?_|refine mC (hQ0) ?_|refine nx ?_)
    rw [hdrop]
    refine zbm (t:=37) rfl rfl fun hlim=>?_
    have hlm2:(rest.map encP).length=rest.length:=List.length_map _
    refine zay (α:=Nat) (fun k=>[(2,.one (.po 2 0)),(3,.one (.fn 136 [])),(4,.one (.po 4 0)),(37,vL (rest.map encP)),(38,vI ((rest.map encP).length:Int)),(39,vI k)]) (fun k=>[(2,.box 159 [di 0,di 0]),(4,.box 159 (encSp (((rest.take k).map lenP).foldl orS (lenP q0))))]) (fun k=>k≤rest.length) (fun k=>rest.length - k) 0 (Nat.zero_le _) subA subA ?_
    intro k hk
    by_cases hlt:k < rest.length
    · obtain ⟨q,hq⟩:∃ q,rest[k]?=some q:=⟨_,List.getElem?_eq_getElem hlt⟩
      have hmem:q∈p.kids:=by rw [hks];exact List.mem_cons_of_mem _ (List.mem_of_getElem? hq)
      have hQ:=ih q hmem (hr q hmem)
      have hA:=or_v (((rest.take k).map lenP).foldl orS (lenP q0)) (lenP q)
      have hnx:=zdS (g:=orS) (b:=lenP q0) hq
      repeat (first|(refine isCl ?_;first|refine uC (hQ) ?_|refine uDc (hA) ?_)|(refine imCl ?_;first|refine mC (hQ) ?_|refine mDc (hA) ?_)|refine nx ?_)
      rw [← hnx]
      exact ⟨k+1,by omega,hlt,subA,subA⟩
    · have hkl:k=rest.length:=by omega
      subst hkl
      rw [List.take_length]
      repeat refine nx ?_
      exact zcg rfl rfl rfl rfl rfl rfl (by rw [zd1 k4,hks];rfl)
end Go.Proofs.YtiplihojmfbjkaaGreat
namespace Go.Proofs.YtiplihojmfbjkaaGreat
open Go.RowKit
set_option maxHeartbeats 16000000
structure Qy where
  mode:Int
  sel:Int
  k:Int
  pat:Pt
def encQ (q:Qy):List D:=.v (.int .i64 q.mode) :: .v (.int .i64 q.sel) :: .v (.int .i64 q.k) :: encP q.pat
theorem zby (q:Qy):(encQ q).length=23:=by unfold encQ;simp [zan]
theorem zev {i:TyI} (q:Qy) (ha:i.agg=true:=by rfl) (hs:i.size=20:=by rfl):loadA i (encQ q) 3=some (.dat (encP q.pat)):=by
  unfold loadA encQ
  rw [if_pos ha,if_neg (fun h=>by cases h.1),if_pos (by simp [zan,hs]),hs]
  show some (VV.dat ((encP q.pat).take 20))=_
  rw [List.take_of_length_le (by rw [zan];exact Nat.le_refl _)]
end Go.Proofs.YtiplihojmfbjkaaGreat
namespace Go.Proofs.YtiplihojmfbjkaaGreat
open Go.RowKit
section
variable {X:Ctx} {γ:Nat→Nat} {T:Nat→Value} {S:Nat→Nat→Prop} {w:World} {fr:Fr} {σ:Obs} {a:Act} {o:Oper} {ops:Array Oper} {rest:List Oper} {Q:Fr→Obs→Prop} {w0:W0} {S0:Nat→Nat→Prop} {nt d:Nat} {xx:Operand}
theorem zll {x y:Value} (hr:Rel X γ T S w fr σ a) (hx:ev fr xx=some (.dat [.v x,.v y])):a.eval xx=.agg #[x,y]:=by
  have:=zae hr hx
  generalize a.eval xx=u at this
  cases this with
  | dat h =>
    rename_i us
    obtain ⟨hl,hv⟩:=h
    match us,hl with
    | [b1,b2],_ =>
      obtain ⟨u,hu,hru⟩:=hv 0 (.v x) rfl
      obtain ⟨u',hu',hru'⟩:=hv 1 (.v y) rfl
      simp only [List.getElem?_cons_zero,List.getElem?_cons_succ,Option.some.injEq] at hu hu'
      subst hu;subst hu'
      cases hru;cases hru';rfl
theorem zpL {x y:Value} {f:Nat} (hP:X.P=Tryz.prog) (hw:wantA ops o fr=some true) (hdst:o.dst=some d) (hd:Nat.blt d X.nt=true) (ho:o.op=.field 159 xx f) (hx:ev fr xx=some (.dat [.v x,.v y])) (hx1:x.oneCell'=true) (hy1:y.oneCell'=true) (hf:f=0∨f=1)
    (h:RL X ops rest ((d,.one (.d (.v (if f=0 then x else y)))) :: fr) σ Q):RL X ops (o :: rest) fr σ Q :=
  ⟨fun γ T S w a K hr hk=>wpList_step fun K' hK=>by
    rw [if_pos (zam hr hw)]
    have hev:=zll hr hx
    have hexec:(execOp a.eval o).run X.P w=.ok (.value (if f=0 then x else y)) w:=by
      rw [hP]
      rcases hf with rfl|rfl
      · simp [execOp,ho,hev,Instr.field,run_underlying Tryz.underlying159,asAgg,part]
      · simp [execOp,ho,hev,Instr.field,run_underlying Tryz.underlying159,asAgg,part]
    unfold Oper.wp
    rw [hexec]
    refine hK _ _ (h.out γ T S w _ K ?_ hk)
    rw [hdst]
    refine hr.put (dst:=some d) hd (.one (.v _ ?_))
    split
    · exact hx1
    · exact hy1⟩
theorem uFld {x y:Value} {f:Nat} (h:RL (cx nt w0 S0) ops rest ((d,.one (.d (.v (if f=0 then x else y)))) :: fr) σ Q) (ho:o.op=.field 159 xx f:=by rfl) (hf:f=0∨f=1:=by first|exact .inl rfl|exact .inr rfl) (hw:wantA ops o fr=some true:=by rfl) (hdst:o.dst=some d:=by rfl) (hd:Nat.blt d nt=true:=by rfl) (hx:ev fr xx=some (.dat [.v x,.v y]):=by rfl) (hx1:x.oneCell'=true:=by rfl) (hy1:y.oneCell'=true:=by rfl):RL (cx nt w0 S0) ops (o :: rest) fr σ Q :=
  zpL (X:=cx nt w0 S0) rfl hw hdst hd ho hx hx1 hy1 hf h
end
def endB (p:Pt):Bool:=p.kind != 5 || decide (0 < (lenP (p.kids.headD zPt)).low)
def endsP:Pt→Bool:=foldP fun p ks=>endB p&&ks.all id
theorem zez (p:Pt):endsP p=(endB p&&p.kids.all endsP):=by unfold endsP;rw [zaV,List.all_map];rfl
theorem zo4 (p:Pt) (h:rightP p=true):CallsV Tryz.prog 163 [.dat (encP p)] (.val (vB (endB p))):=by
  have hlm:(p.kids.map encP).length=p.kids.length:=List.length_map _
  have hdef:endB p=(p.kind != 5 || decide (0 < (lenP (p.kids.headD zPt)).low)):=rfl
  (refine zaa (Ty:=Ty) zad Tryz.func163 rfl rfl rfl fun w0 S0=>?_;refine enA ?_)
  by_cases k5:p.kind=5
  · obtain ⟨⟨k,hk,hkr⟩,_⟩:=zaI h k5
    have hQ:=zg3 k hkr
    have hk0:(p.kids.map encP)[Int.toNat 0]?=some (encP k):=by rw [hk];rfl
    rw [hk] at hdef
    have hdef:endB p=decide (0 < (lenP k).low):=by rw [hdef];simp [k5]
    by_cases hp:0 < (lenP k).low
    · repeat (first|refine uC (hQ) ?_|refine nx ?_)
      refine uFld ?_
      repeat refine nx ?_
      exact zab (by rfl) (zao (by rw [hdef];simp [hp]))
    · repeat (first|refine uC (hQ) ?_|refine nx ?_)
      refine uFld ?_
      repeat refine nx ?_
      exact zab (by rfl) (zao (by rw [hdef];simp [hp]))
  · repeat refine nx ?_
    exact zab (by rfl) (zao (by rw [hdef];simp [k5]))
theorem zox:∀ p:Pt,rightP p=true→CallsV Tryz.prog 107 [.dat (encP p),.one (.d (.fn 163 []))] (.val (vB (endsP p))):=Pt.ind fun p ih h=>by
  have hr:=zaF h
  have hC1:∀ k∈p.kids,CallsV Tryz.prog 158 (.dat (encP k) :: [[D.fn 163 []]].map fun q=>.one (.d (.pi q))) (.val (vB (!endsP k))):=fun k hk=>by
    have hW:=ih k hk (hr k hk)
    rw [List.map_singleton]
    (refine zaa (Ty:=Ty) zad Tryz.func158 rfl rfl rfl fun w0 S0=>?_;refine enA ?_)
    cases hb:endsP k
    all_goals
      rw [hb] at hW
      repeat (first|refine uC (hW) ?_|refine nx ?_)
      exact zab (by rfl) rfl
  have hC:=zfA p.kids 158 [[D.fn 163 []]] (fun k=>!endsP k) hC1
  rw [zgX endsP] at hC
  have hE:=zo4 p h
  have hdef:=zez p
  (refine zaa (Ty:=Ty) zad Tryz.func107 rfl rfl rfl fun w0 S0=>?_;refine enA ?_)
  cases hb:endB p with
  | false =>
    rw [hb] at hE
    repeat (first|refine uDc (hE) ?_|refine nx ?_)
    exact zab (by rfl) (zao (by rw [hdef,hb];rfl))
  | true =>
    rw [hb] at hE
    rw [hb,Bool.true_and] at hdef
    repeat (first|refine uDc (hE) ?_|refine nx ?_)
    refine uFz [(3,[.fn 163 []])] ?_
    cases ha:p.kids.all endsP
    all_goals
      rw [ha] at hC
      repeat (first|refine uC (hC) ?_|refine nx ?_)
      exact zab (by rfl) (zao (by rw [hdef,ha]))
theorem zpI (p:Pt) (h:rightP p=true):CallsV Tryz.prog 115 [.dat (encP p)] (.val (vB (endsP p))):=by
  have hW:=zox p h
  (refine zaa (Ty:=Ty) zad Tryz.func115 rfl rfl rfl fun w0 S0=>?_;refine enA ?_)
  repeat (first|refine uC (hW) ?_|refine nx ?_)
  exact zab (by rfl) rfl
end Go.Proofs.YtiplihojmfbjkaaGreat
namespace Go.Proofs.YtiplihojmfbjkaaGreat
open Go.RowKit Go.ChangeShapes Go.WideShapes Go.Deep
mutual
def bulkD:D→Nat
  | .v (.string s)=>s.size+1
  | .v _=>1
  | .sl rows=>bulkRR rows+1
  | .pi _=>1
  | .fn _ _=>1
def bulkR:List D→Nat
  | []=>0
  | d :: l=>bulkD d+bulkR l
def bulkRR:List (List D)→Nat
  | []=>0
  | q :: l=>bulkR q+bulkRR l
end
theorem zhs:∀ (a b:List D),bulkR (a++b)=bulkR a+bulkR b
  | [],b=>by simp [bulkR]
  | d :: a,b=>by simp only [List.cons_append,bulkR,zhs a b];omega
theorem zpH {H:Type} (d:DataW H):1≤Rows.uptoBulk d:=by
  cases d with
  | lit l=>cases l<;>simp [Rows.uptoBulk]
  | nil=>simp [Rows.uptoBulk]
  | ptr d=>simp [Rows.uptoBulk]
  | slice elems spare=>simp [Rows.uptoBulk]
  | agg parts=>simp [Rows.uptoBulk]
  | iface t d=>simp [Rows.uptoBulk]
  | map entries=>simp [Rows.uptoBulk]
  | held h=>simp [Rows.uptoBulk]
theorem zj3 {H:Type}:∀ (rows:List (List D)) (l:List (DataW H)),rows.length=l.length→(∀ (i:Nat) (q:List D) (d:DataW H),rows[i]?=some q→l[i]?=some d→bulkR q≤Rows.uptoBulk d)→bulkRR rows≤Rows.uptoBulkAll l
  | [],l,_,_=>by simp [bulkRR]
  | q :: rows,[],h,_=>by simp at h
  | q :: rows,d :: l,h,hk=>by
    have h1:=hk 0 q d rfl rfl
    have h2:=zj3 rows l (by simpa using h) fun i q d hq hd=>hk (i+1) q d (by simpa using hq) (by simpa using hd)
    simp only [bulkRR,Rows.uptoBulkAll];omega
section
variable {H:Type} {enc:TypeId × Value→H} {P:Program} {w:World} {base:Nat} {spare:Nat→Bool} {held:Bool}
theorem zg5 (ds:List D):∀ (fs:List Field) (a m:Nat) (l:List (DataW H)),contig P fs a=some m→fs.length=l.length→
    (∀ (i:Nat) (f:Field) (d:DataW H),fs[i]?=some f→l[i]?=some d→bulkR ((ds.drop f.offset).take (P.cellsOf f.type))≤Rows.uptoBulk d)→a≤m∧bulkR ((ds.drop a).take (m - a))≤Rows.uptoBulkAll l
  | [],a,m,l,h,_,_=>by
    simp only [contig,Option.some.injEq] at h
    subst h
    exact ⟨Nat.le_refl _,by simp [bulkR]⟩
  | f :: fs,a,m,[],h,hl,_=>by simp at hl
  | f :: fs,a,m,d :: l,h,hl,hk=>by
    simp only [contig] at h
    split at h
    · rename_i hc
      obtain ⟨h1,h2⟩:=zg5 ds fs _ m l h (by simpa using hl) fun i f d hf hd=>hk (i+1) f d (by simpa using hf) (by simpa using hd)
      have h0:=hk 0 f d rfl rfl
      rw [hc.1] at h0
      refine ⟨by omega,?_⟩
      have e:(ds.drop a).take (m - a)=(ds.drop a).take (P.cellsOf f.type)++(ds.drop (a+P.cellsOf f.type)).take (m - (a+P.cellsOf f.type)):=by
        rw [← List.drop_drop,← List.take_add]
        congr 1
        omega
      rw [e,zhs]
      simp only [Rows.uptoBulkAll]
      omega
    · cases h
theorem zfR (L:List TypeId) (hL:L.all (simpleT P L)=true):∀ (fuel:Nat) (t:TypeId) (cs:List Value) (x:DataW H × List MemPlace) (ds:List D),L.contains t=true→DataW.trod enc P w base spare held fuel t cs=some x→RDL (SW_ w) w ds cs→Sh P fuel t ds→bulkR ds≤Rows.uptoBulk x.1:=by
  intro fuel
  induction fuel using Nat.strongRecOn with
  | _ fuel ih =>
  intro t cs x ds ht h hr hsh
  have hs:=List.all_eq_true.1 hL t (by simpa using ht)
  obtain ⟨n0,hn0⟩:∃ n,fuel=n+1:=by
    cases fuel with
    | zero=>simp [DataW.trod] at h
    | succ n=>exact ⟨n,rfl⟩
  rw [hn0] at hsh
  unfold Sh at hsh
  unfold simpleT at hs
  have hone:=zpH x.1
  split at hs
  · rename_i k hu
    rw [hu] at hsh
    obtain ⟨m,_,rfl⟩:=hsh
    simpa [bulkR,bulkD] using hone
  · rename_i hu
    rw [hu] at hsh
    obtain ⟨b,rfl⟩:=hsh
    simpa [bulkR,bulkD] using hone
  · rename_i hu
    rw [hu] at hsh
    obtain ⟨s',_,rfl⟩:=hsh
    obtain ⟨s,rfl,hx,_⟩:=DataW.trod_string hu h
    obtain ⟨u,hu1,hu2⟩:=hr.2 0 _ rfl
    simp only [List.getElem?_cons_zero,Option.some.injEq] at hu1
    subst hu1
    cases hu2
    rw [hx]
    simp [bulkR,bulkD,Rows.uptoBulk]
  · rename_i k hu
    rw [hu] at hsh
    obtain ⟨m,rfl⟩:=hsh
    simpa [bulkR,bulkD] using hone
  · rename_i e hu
    rw [hu] at hsh
    obtain ⟨rows,rfl,_,hrows⟩:=hsh
    obtain ⟨u,hu1,hu2⟩:=hr.2 0 _ rfl
    simp only [Bool.and_eq_true] at hs
    obtain ⟨⟨he,hce⟩,_⟩:=hs
    have hce':0 < P.cellsOf e:=by simpa [Nat.blt_eq] using hce
    rcases DataW.trod_slice hu h with ⟨rfl,hx⟩ | ⟨a,len,cap,elems,rest,n,hn,rfl,hx,hb,hl,hm,hlen,hel,_,_⟩
    · simp only [List.getElem?_cons_zero,Option.some.injEq] at hu1
      generalize hre:D.sl rows=dd at hu2
      cases hu2 with
      | v _ _=>cases hre
      | pi _ _ _ _ _ _=>cases hre
      | fn _ _ _ _ _=>cases hre
      | sl rows' A c sz vs cap lim nil row val spot mem =>
        injection hre with hre;subst hre
        injection hu1 with h1 h2
        have:rows=[]:=List.length_eq_zero_iff.1 h2.symm
        subst this
        simpa [bulkR,bulkD,bulkRR] using hone
    · simp only [List.getElem?_cons_zero,Option.some.injEq] at hu1
      generalize hre:D.sl rows=dd at hu2
      cases hu2 with
      | v _ _=>cases hre
      | pi _ _ _ _ _ _=>cases hre
      | fn _ _ _ _ _=>cases hre
      | sl rows' A c sz vs cap' lim nil row val spot mem =>
        injection hre with hre;subst hre
        injection hu1 with h1 h2 h3
        subst h1
        have key:bulkRR rows≤Rows.uptoBulkAll (elems.map (·.1)):=by
          refine zj3 rows _ (by rw [List.length_map];omega) fun i q d hq hd=>?_
          have hi:i < rows.length:=(List.getElem?_eq_some_iff.1 hq).1
          rw [List.getElem?_map,Option.map_eq_some_iff] at hd
          obtain ⟨y,hy,rfl⟩:=hd
          have h4:=hel i (by omega)
          rw [hy] at h4
          obtain ⟨us,hc,htr⟩:=Option.bind_eq_some_iff.1 h4
          obtain ⟨_,g1,g2⟩:=World.cells?_some hc
          obtain ⟨hq1,hq2⟩:=hrows q (List.mem_of_getElem? hq)
          have hsz:sz=P.cellsOf e:=(row i q hq).symm.trans hq2
          have hsp:=spot a rfl (by omega)
          refine ih n (by omega) e us y q he htr ⟨by rw [g1,hq2],fun j dd hj=>?_⟩ (by
            have:n0=n:=by omega
            rw [← this];exact hq1)
          have hjl:j < q.length:=(List.getElem?_eq_some_iff.1 hj).1
          have hv:=val i q hq j dd hj
          have hm2:=(mem a rfl i hi j (by rw [hsz,← hq2];exact hjl)).2
          refine ⟨vs i j,?_,hv⟩
          rw [← g2 j (by rw [← hq2];exact hjl),← hm2,hsz]
          obtain ⟨b,off,sp⟩:=a
          simp only at hsp
          subst hsp
          rw [Addr.add_lit,Addr.add_lit,Nat.add_assoc]
        rw [hx]
        simp only [bulkR,bulkD,Rows.uptoBulk]
        omega
  · rename_i fs hu
    rw [hu] at hsh
    simp only [Bool.and_eq_true,beq_iff_eq] at hs
    obtain ⟨hmem,hcon⟩:=hs
    obtain ⟨xs,n,hn,hx,hlen,hxs,hfl⟩:=DataW.trod_struct hu h
    have hnn:n0=n:=by omega
    subst hnn
    obtain ⟨hdl,hparts⟩:=hsh
    obtain ⟨_,h2⟩:=zg5 (P:=P) ds fs.toList 0 _ (xs.map (·.1)) hcon (by rw [List.length_map,hxs];simp) fun i f d hf hd=>by
      rw [List.getElem?_map,Option.map_eq_some_iff] at hd
      obtain ⟨y,hy,rfl⟩:=hd
      rw [Array.getElem?_toList] at hf
      have h3:=hfl i f hf
      rw [hy] at h3
      refine ih n0 (by omega) _ _ _ _ ?_ h3 ((hr.drop _).take _) (hparts i f hf)
      exact List.all_eq_true.1 hmem f (by rw [← Array.getElem?_toList] at hf;exact List.mem_of_getElem? hf)
    rw [List.drop_zero,Nat.sub_zero,List.take_of_length_le (by omega)] at h2
    rw [hx]
    simp only [Rows.uptoBulk]
    omega
  · cases hs
end
theorem zfn:∀ (l:List Pt),bulkRR (l.map encP)=(l.map fun p=>bulkR (encP p)).sum
  | []=>by simp [bulkRR]
  | p :: l=>by simp only [List.map_cons,bulkRR,zfn l,List.sum_cons]
theorem zlp:∀ p:Pt,2 * (varsP p).length+((varsP p).map ByteArray.size).sum≤bulkR (encP p):=Pt.ind fun p ih=>by
  have hk:∀ l:List Pt,(∀ k∈l,2 * (varsP k).length+((varsP k).map ByteArray.size).sum≤bulkR (encP k))→2 * (l.flatMap varsP).length+((l.flatMap varsP).map ByteArray.size).sum≤(l.map fun p=>bulkR (encP p)).sum:=by
    intro l
    induction l with
    | nil=>intro _;simp
    | cons x l ihl =>
      intro h
      have h1:=h x List.mem_cons_self
      have h2:=ihl fun k hk=>h k (List.mem_cons_of_mem _ hk)
      rw [List.flatMap_cons,List.length_append,List.map_append,List.sum_append,List.map_cons,List.sum_cons]
      omega
  have hk:=hk p.kids ih
  rw [zfS,List.length_append,List.map_append,List.sum_append]
  have ho:2 * (ownV p).length+((ownV p).map ByteArray.size).sum≤p.var.size+2:=by
    unfold ownV
    split
    · simp
    · simp;omega
  rw [zaM]
  simp only [bulkR,bulkD,zfn]
  omega
end Go.Proofs.YtiplihojmfbjkaaGreat
namespace Go.Proofs.YtiplihojmfbjkaaGreat
open Go.RowKit Go.ChangeShapes Go.WideShapes Go.Deep
theorem zoM {H:Type} {d:DataW H} {l:List (DataW H)} (h:d∈l):Rows.uptoBulk d≤Rows.uptoBulkAll l:=by
  induction l with
  | nil=>cases h
  | cons x r ih =>
    simp only [Rows.uptoBulkAll]
    cases List.mem_cons.1 h with
    | inl e=>subst e;omega
    | inr e=>have:=ih e;omega
theorem zmZ {H:Type} {l:List (DataW H)} (hk:Rows.uptoSmall H l=true):∀ d∈l,Rows.uptoBulk d≤1048576:=fun d hd=>by
  have h1:Rows.uptoBulkAll l≤1048576:=of_decide_eq_true hk
  exact Nat.le_trans (zoM hd) h1
def simpleQ:List TypeId:=108 :: simpleL
theorem zgB:simpleQ.all (simpleT Tryz.prog simpleQ)=true:=by kernel_rfl
section
variable {H:Type} {enc:TypeId × Value→H} {w:World} {base b0:Nat} {spare:Nat→Bool} {held:Bool} {r:Reach} {ts:List TypeId} {ds:List (DataW H)}
theorem znr {j:Nat} {v:Value} {d:DataW H} {p:List MemPlace} (hsz:(DataW.weightsEach Tryz.prog ts ds).all (· ≤ reachBytes)=true) (ht:ts[j]?=some 34) (hd:ds[j]?=some d)
    (hv:Value.okWide Tryz.prog w r b0 34 v) (h:DataW.Trod enc Tryz.prog w base spare held 34 v d p):∃ e:Pt,PV (SW_ w) w (.dat (encP e)) v∧bulkR (encP e)≤Rows.uptoBulk d:=by
  obtain ⟨cs,e, -⟩:=okWide_struct Tryz.underlying34 hv
  obtain ⟨n,hf⟩:=h
  obtain ⟨x,h1,h2⟩:=zfZ simpleQ zgB n _ _ _ rfl hf (List.all_eq_true.2 fun y hy=>List.all_eq_true.1 hsz y (DataW.weights_mem_each ht hd y hy))
  have h3:=zfR simpleQ zgB n _ _ _ x rfl hf h1 h2
  obtain ⟨y,rfl⟩:=znS n x h2
  exact ⟨y,zj9 e h1,h3⟩
end
theorem znA {p:Pt} (h:bulkR (encP p)≤1048576):(varsP p).length≤1000000 - 1∧((varsP p).map ByteArray.size).sum≤2000000:=by
  have:=zlp p
  exact ⟨by omega,by omega⟩
end Go.Proofs.YtiplihojmfbjkaaGreat
namespace Go.Proofs.YtiplihojmfbjkaaGreat
open Go.RowKit Go.ChangeShapes Go.WideShapes Go.Deep
theorem znq {n:Nat} {ds:List D} (h:Sh Tryz.prog n 105 ds):∃ p:Nd,ds=encNd p:=by
  obtain ⟨m,rfl,hl,hf⟩:=zb4 Tryz.underlying105 h
  have k1:Tryz.prog.cellsOf 9=1:=by kernel_rfl
  have k2:Tryz.prog.cellsOf 79=1:=by kernel_rfl
  have k3:Tryz.prog.cellsOf 80=1:=by kernel_rfl
  have k4:Tryz.prog.cellsOf 105=3:=by kernel_rfl
  rw [k4] at hl
  match ds,hl with
  | [a1,a2,a3],_ =>
    obtain ⟨x1,_,e1⟩:=zc0 Tryz.underlying9 (show Sh Tryz.prog m 9 [a1] by simpa [k1] using hf 0 _ rfl)
    obtain ⟨x2,e2,_⟩:=zh3 (show Sh Tryz.prog m 79 [a2] by simpa [k2] using hf 1 _ rfl)
    obtain ⟨x3,e3⟩:=zhh (show Sh Tryz.prog m 80 [a3] by simpa [k3] using hf 2 _ rfl)
    simp only [List.cons.injEq,and_true] at e1 e2 e3
    exact ⟨⟨x1,x2,x3⟩,by unfold encNd;rw [e1,e2,e3]⟩
theorem zm2 {n:Nat} {ds:List D} (h:Sh Tryz.prog n 82 ds):∃ p:Ed,ds=encEd p:=by
  obtain ⟨m,rfl,hl,hf⟩:=zb4 Tryz.underlying82 h
  have k1:Tryz.prog.cellsOf 9=1:=by kernel_rfl
  have k2:Tryz.prog.cellsOf 79=1:=by kernel_rfl
  have k3:Tryz.prog.cellsOf 80=1:=by kernel_rfl
  have k4:Tryz.prog.cellsOf 3=1:=by kernel_rfl
  have k5:Tryz.prog.cellsOf 4=1:=by kernel_rfl
  have k6:Tryz.prog.cellsOf 82=6:=by kernel_rfl
  rw [k6] at hl
  match ds,hl with
  | [a1,a2,a3,a4,a5,a6],_ =>
    obtain ⟨x1,_,e1⟩:=zc0 Tryz.underlying9 (show Sh Tryz.prog m 9 [a1] by simpa [k1] using hf 0 _ rfl)
    obtain ⟨x2,_,e2⟩:=zcp Tryz.underlying3 (show Sh Tryz.prog m 3 [a2] by simpa [k4] using hf 1 _ rfl)
    obtain ⟨x3,_,e3⟩:=zcp Tryz.underlying3 (show Sh Tryz.prog m 3 [a3] by simpa [k4] using hf 2 _ rfl)
    obtain ⟨x4,e4⟩:=zol Tryz.underlying4 (show Sh Tryz.prog m 4 [a4] by simpa [k5] using hf 3 _ rfl)
    obtain ⟨x5,e5,_⟩:=zh3 (show Sh Tryz.prog m 79 [a5] by simpa [k2] using hf 4 _ rfl)
    obtain ⟨x6,e6⟩:=zhh (show Sh Tryz.prog m 80 [a6] by simpa [k3] using hf 5 _ rfl)
    simp only [List.cons.injEq,and_true] at e1 e2 e3 e4 e5 e6
    exact ⟨⟨x1,x2,x3,x4,x5,x6⟩,by unfold encEd;rw [e1,e2,e3,e4,e5,e6]⟩
theorem zlf {n:Nat} {ds:List D} (h:Sh Tryz.prog n 25 ds):∃ p:Gr,ds=encG p:=by
  obtain ⟨m,rfl,hl,hf⟩:=zb4 Tryz.underlying25 h
  have k1:Tryz.prog.cellsOf 22=1:=by kernel_rfl
  have k2:Tryz.prog.cellsOf 23=1:=by kernel_rfl
  have k4:Tryz.prog.cellsOf 25=2:=by kernel_rfl
  rw [k4] at hl
  match ds,hl with
  | [a1,a2],_ =>
    obtain ⟨m1,r1,hm1,e1,_,hr1⟩:=zcr Tryz.underlying22 (show Sh Tryz.prog m 22 [a1] by simpa [k1] using hf 0 _ rfl)
    obtain ⟨m2,r2,hm2,e2,_,hr2⟩:=zcr Tryz.underlying23 (show Sh Tryz.prog m 23 [a2] by simpa [k2] using hf 1 _ rfl)
    obtain ⟨l1,rfl⟩:=zb1 encNd (fun q=>Sh Tryz.prog m1 105 q) (fun q hq=>znq hq) r1 hr1
    obtain ⟨l2,rfl⟩:=zb1 encEd (fun q=>Sh Tryz.prog m2 82 q) (fun q hq=>zm2 hq) r2 hr2
    simp only [List.cons.injEq,and_true] at e1 e2
    exact ⟨⟨l1,l2⟩,by unfold encG;rw [e1,e2]⟩
def encB (b:Bool):List D:=[.v (.bool b)]
def encI (i:Int):List D:=[.v (.int .i64 i)]
def graphL:List TypeId:=[3,2,4,9,26,79,71,28,227,80,105,22,82,23,25]
theorem ziN:graphL.all (simpleT Tryz.prog graphL)=true:=by kernel_rfl
section
variable {H:Type} {enc:TypeId × Value→H} {w:World} {base b0:Nat} {spare:Nat→Bool} {held:Bool} {r:Reach} {ts:List TypeId} {ds:List (DataW H)}
theorem zkB {j:Nat} {v:Value} {d:DataW H} {p:List MemPlace} (hsz:(DataW.weightsEach Tryz.prog ts ds).all (· ≤ reachBytes)=true) (ht:ts[j]?=some 25) (hd:ds[j]?=some d)
    (hv:Value.okWide Tryz.prog w r b0 25 v) (h:DataW.Trod enc Tryz.prog w base spare held 25 v d p):∃ e:Gr,PV (SW_ w) w (.dat (encG e)) v∧bulkR (encG e)≤Rows.uptoBulk d:=by
  obtain ⟨cs,e, -⟩:=okWide_struct Tryz.underlying25 hv
  obtain ⟨n,hf⟩:=h
  obtain ⟨x,h1,h2⟩:=zfZ graphL ziN n _ _ _ rfl hf (List.all_eq_true.2 fun y hy=>List.all_eq_true.1 hsz y (DataW.weights_mem_each ht hd y hy))
  have h3:=zfR graphL ziN n _ _ _ x rfl hf h1 h2
  obtain ⟨y,rfl⟩:=zlf h2
  exact ⟨y,zj9 e h1,h3⟩
end
theorem zir:∀ {l:List (List D)},(∀ q∈l,0 < bulkR q)→l.length≤bulkRR l
  | [],_=>by simp [bulkRR]
  | q :: l,h=>by
    have h1:=h q List.mem_cons_self
    have h2:=zir fun x hx=>h x (List.mem_cons_of_mem _ hx)
    simp only [List.length_cons,bulkRR];omega
theorem zfX {q:List D}:∀ {l:List (List D)},q∈l→bulkR q≤bulkRR l
  | x :: l,h=>by
    simp only [bulkRR]
    rcases List.mem_cons.1 h with h|h
    · subst h;omega
    · have:=zfX h;omega
theorem zhn (l:List Pr):l.length≤bulkRR (l.map encPr):=by
  have:=zir (l:=l.map encPr) fun q hq=>by
    obtain ⟨p,_,rfl⟩:=List.mem_map.1 hq
    simp only [encPr,bulkR,bulkD]
    omega
  simpa using this
theorem zg1 {g:Gr} {b:Nat} (h:bulkR (encG g)≤b):(∀ n∈g.nodes,n.props.length≤b)∧ ∀ e∈g.edges,e.props.length≤b:=by
  simp only [encG,bulkR,bulkD] at h
  constructor
  · intro n hn
    have h1:=zfX (List.mem_map_of_mem (f:=encNd) hn)
    have h2:=zhn n.props
    simp only [encNd,bulkR,bulkD] at h1
    omega
  · intro n hn
    have h1:=zfX (List.mem_map_of_mem (f:=encEd) hn)
    have h2:=zhn n.props
    simp only [encEd,bulkR,bulkD] at h1
    omega
end Go.Proofs.YtiplihojmfbjkaaGreat
