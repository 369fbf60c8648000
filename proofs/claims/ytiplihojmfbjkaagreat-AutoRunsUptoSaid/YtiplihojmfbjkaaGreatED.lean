/- Walks: reckoning. -/
import Derived.Test.YtiplihojmfbjkaaGreatMT
import Derived.Lib.Mul64
import Derived.Laws.Bits64b
import Derived.Test.YtiplihojmfbjkaaGreatWM
set_option maxRecDepth 100000
set_option maxHeartbeats 8000000
namespace Go.Proofs.YtiplihojmfbjkaaGreat
open Go.RowKit
theorem maskE (a:Nat) (ha:a < 18446744073709551616):IntKind.u64.wrap ((BitVec.ofInt IntKind.u64.bits (a:Int) &&& BitVec.ofInt IntKind.u64.bits 4294967295).toNat:Int)=((a % 4294967296:Nat):Int):=by
  have h1:BitVec.ofInt IntKind.u64.bits (a:Int)=BitVec.ofNat 64 a:=BitVec.ofInt_natCast _ _
  have h2:BitVec.ofInt IntKind.u64.bits 4294967295=BitVec.ofNat 64 4294967295:=rfl
  have h3:(BitVec.ofNat 64 a &&& BitVec.ofNat 64 4294967295).toNat=a % 4294967296:=by
    rw [BitVec.toNat_and,BitVec.toNat_ofNat,BitVec.toNat_ofNat,Nat.mod_eq_of_lt ha]
    exact Nat.and_two_pow_sub_one_eq_mod a 32
  have h4:(BitVec.ofInt IntKind.u64.bits (a:Int) &&& BitVec.ofInt IntKind.u64.bits 4294967295).toNat=a % 4294967296:=by
    rw [h1,h2];exact h3
  rw [h4,IntKind.wrap_u64]
  omega
theorem shrE (a:Nat):((a:Int)).fdiv (2 ^ min (Int.toNat 32) IntKind.u64.bits)=((a / 4294967296:Nat):Int):=by
  have:(2 ^ min (Int.toNat 32) IntKind.u64.bits:Int)=4294967296:=by decide
  rw [this,Int.fdiv_eq_ediv_of_nonneg _ (by decide)]
  omega
theorem mulE (a b:Nat):(a:Int) * (b:Int)=((a * b:Nat):Int):=(Int.natCast_mul a b).symm
theorem addE (a b:Nat):(a:Int)+(b:Int)=((a+b:Nat):Int):=(Int.natCast_add a b).symm
theorem wrapE (a:Nat) (ha:a < 18446744073709551616):IntKind.u64.wrap (a:Int)=(a:Int):=by rw [IntKind.wrap_u64];omega
theorem wrapM (a:Nat):IntKind.u64.wrap (a:Int)=((a % 18446744073709551616:Nat):Int):=by rw [IntKind.wrap_u64];omega
theorem zmO (x y:Nat) (hx:x < 18446744073709551616) (hy:y < 18446744073709551616):CallsV Tryz.prog 173 [vUE x,vUE y] (.val (.tup [vUE ((x * y / 18446744073709551616:Nat):Int),vUE ((x * y % 18446744073709551616:Nat):Int)])):=by
  obtain ⟨bd,bt,bw,hhi⟩:=Lib.mul64_hi x y hx hy
  have ba:=Lib.half_mul_le (a:=x / 4294967296) (b:=y / 4294967296) (by omega) (by omega)
  have bb:=Lib.half_mul_le (a:=x / 4294967296) (b:=y % 4294967296) (by omega) (by omega)
  have bc:=Lib.half_mul_le (a:=x % 4294967296) (b:=y / 4294967296) (by omega) (by omega)
  have ba':x / 4294967296 * (y / 4294967296) < 18446744073709551616:=by omega
  have bb':x / 4294967296 * (y % 4294967296) < 18446744073709551616:=by omega
  have bc':x % 4294967296 * (y / 4294967296) < 18446744073709551616:=by omega
  have bh1:x / 4294967296 * (y / 4294967296)+(x / 4294967296 * (y % 4294967296)+x % 4294967296 * (y % 4294967296) / 4294967296) / 4294967296 < 18446744073709551616:=by omega
  have bh:x / 4294967296 * (y / 4294967296)+(x / 4294967296 * (y % 4294967296)+x % 4294967296 * (y % 4294967296) / 4294967296) / 4294967296+((x / 4294967296 * (y % 4294967296)+x % 4294967296 * (y % 4294967296) / 4294967296) % 4294967296+x % 4294967296 * (y / 4294967296)) / 4294967296 < 18446744073709551616:=by omega
  (refine zaa (Ty:=Ty) zad Tryz.func173 rfl rfl rfl fun w0 S0=>?_;refine enA ?_)
  repeat refine nx ?_
  refine zab (by rfl) ?_
  simp only [maskE x hx,maskE y hy,shrE,mulE,addE,wrapE _ bd,wrapE _ bb',wrapE _ bt,maskE _ bt,wrapE _ bc',wrapE _ bw,wrapE _ ba',wrapE _ bh1,wrapE _ bh,wrapM (x * y)]
  rw [hhi]
  rfl
def andI (x y:Int):Int:=IntKind.i64.wrap ((BitVec.ofInt IntKind.i64.bits x &&& BitVec.ofInt IntKind.i64.bits y).toNat:Int)
def xorI (x y:Int):Int:=IntKind.i64.wrap ((BitVec.ofInt IntKind.i64.bits x ^^^ BitVec.ofInt IntKind.i64.bits y).toNat:Int)
def mxI (a:Int):Int:=IntKind.u64.wrap (if IntKind.i64.wrap (0 - a) > a then IntKind.i64.wrap (0 - a) else a)
theorem zjE (a:Int):∃ n:Nat,mxI a=n∧n < 18446744073709551616:=⟨(mxI a).toNat,by unfold mxI;rw [IntKind.wrap_u64];omega,by unfold mxI;rw [IntKind.wrap_u64];omega⟩
def mulV (a b:Int):Int × Bool :=
  if decide (a < 0)=decide (b < 0) then (IntKind.i64.wrap (mxI a * mxI b % 18446744073709551616),decide (mxI a * mxI b < 9223372036854775808))
  else (IntKind.i64.wrap (0 - IntKind.i64.wrap (mxI a * mxI b % 18446744073709551616)),decide (mxI a * mxI b≤9223372036854775808))
def wholeV (k:Nat) (a b:Int):Int × Bool :=
  if k=0 then (IntKind.i64.wrap (a+b),decide (andI (xorI a (IntKind.i64.wrap (a+b))) (xorI b (IntKind.i64.wrap (a+b)))≥0))
  else if k=1 then (IntKind.i64.wrap (a - b),decide (andI (xorI a b) (xorI a (IntKind.i64.wrap (a - b)))≥0))
  else mulV a b
inductive Ari:ByteArray→Nat→Prop
  | add:Ari ⟨#[43]⟩ 0
  | sub:Ari ⟨#[45]⟩ 1
  | mul:Ari ⟨#[42]⟩ 2
theorem Ari.facts {s:ByteArray} {k:Nat} (h:Ari s k):(s.toList==ByteArray.toList ⟨#[43]⟩)=decide (k=0)∧(s.toList==ByteArray.toList ⟨#[45]⟩)=decide (k=1)∧(s.toList==ByteArray.toList ⟨#[42]⟩)=decide (k=2)∧(k=0∨k=1∨k=2):=by
  simp only [ByteArray.toList_eq]
  cases h<;>decide
theorem zn9 {s:ByteArray} {k:Nat} (hs:Ari s k) (a b:Int):CallsV Tryz.prog 285 [vS s,vI a,vI b] (.val (.tup [vI (wholeV k a b).1,vB (wholeV k a b).2])):=by
  obtain ⟨f1,f2,f3,hk⟩:=hs.facts
  rcases hk with rfl|rfl|rfl
  · (refine zaa (Ty:=Ty) zad Tryz.func285 rfl rfl rfl fun w0 S0=>?_;refine enA ?_)
    repeat refine nx ?_
    exact zab (by rfl) rfl
  · (refine zaa (Ty:=Ty) zad Tryz.func285 rfl rfl rfl fun w0 S0=>?_;refine enA ?_)
    repeat refine nx ?_
    exact zab (by rfl) rfl
  · obtain ⟨x,hx,hx'⟩:=zjE a
    obtain ⟨y,hy,hy'⟩:=zjE b
    have hm:=zmO x y hx' hy'
    rw [← hx,← hy] at hm
    obtain ⟨p,hp⟩:∃ p,x * y=p:=⟨_,rfl⟩
    rw [hp] at hm
    obtain ⟨hi,hhi⟩:∃ z:Int,z=((p / 18446744073709551616:Nat):Int):=⟨_,rfl⟩
    obtain ⟨lo,hlo⟩:∃ z:Int,z=((p % 18446744073709551616:Nat):Int):=⟨_,rfl⟩
    rw [← hhi,← hlo] at hm
    have hd:wholeV 2 a b=mulV a b:=rfl
    rw [hd]
    by_cases hab:decide (a < 0)=decide (b < 0)
    · have hne:(!(decide (a < 0)==decide (b < 0)))=false:=by rw [hab];simp
      have hv:mulV a b=(IntKind.i64.wrap (mxI a * mxI b % 18446744073709551616),decide (mxI a * mxI b < 9223372036854775808)):=by unfold mulV;rw [if_pos hab]
      rw [hv,hx,hy,mulE,hp]
      clear hv
      rw [show (p:Int) % 18446744073709551616=lo by omega]
      (refine zaa (Ty:=Ty) zad Tryz.func285 rfl rfl rfl fun w0 S0=>?_;refine enA ?_)
      repeat' (first|refine uC (hm) ?_|refine nx ?_|(refine nx2 ?_ ?_<;>intro hb))
      all_goals exact zab (by rfl) (tupIB rfl (by first|(symm;rw [decide_eq_false_iff_not];omega)|(rw [decide_eq_decide];omega)))
    · have hne:(!(decide (a < 0)==decide (b < 0)))=true:=by simpa using hab
      have hv:mulV a b=(IntKind.i64.wrap (0 - IntKind.i64.wrap (mxI a * mxI b % 18446744073709551616)),decide (mxI a * mxI b≤9223372036854775808)):=by unfold mulV;rw [if_neg hab]
      rw [hv,hx,hy,mulE,hp]
      clear hv
      rw [show (p:Int) % 18446744073709551616=lo by omega]
      (refine zaa (Ty:=Ty) zad Tryz.func285 rfl rfl rfl fun w0 S0=>?_;refine enA ?_)
      repeat' (first|refine uC (hm) ?_|refine nx ?_|(refine nx2 ?_ ?_<;>intro hb))
      all_goals exact zab (by rfl) (tupIB rfl (by first|(symm;rw [decide_eq_false_iff_not];omega)|(rw [decide_eq_decide];omega)))
def opF:Nat→BinOp
  | 0=>.add
  | 1=>.sub
  | _=>.mul
def arF (k:Nat) (x y:Nat):Nat:=match floatBits (opF k) .f64 x y with
  | some r=>canon r
  | none=>nanBits
theorem zmM (t:Nat):FloatKind.f64.format.order ((t % 2) * 2 ^ 63+0x7ff0000000000000+1+(t / 2) % (2 ^ 52 - 1)) ((t % 2) * 2 ^ 63+0x7ff0000000000000+1+(t / 2) % (2 ^ 52 - 1))=none:=by
  obtain ⟨u,hu⟩:∃ u,t % 2=u:=⟨_,rfl⟩
  obtain ⟨v,hv⟩:∃ v,(t / 2) % (2 ^ 52 - 1)=v:=⟨_,rfl⟩
  have hu2:u=0∨u=1:=by omega
  have hv2:v < 2 ^ 52 - 1:=by rw [← hv];exact Nat.mod_lt _ (by decide)
  rw [hu,hv]
  clear hu hv
  obtain ⟨b,hb⟩:∃ b,u * 2 ^ 63+0x7ff0000000000000+1+v=b:=⟨_,rfl⟩
  rw [hb]
  obtain ⟨s,f,hr⟩:∃ s f,Ieee.double.read b=.nan s f:=by
    unfold Ieee.Format.read
    have hsw:Ieee.double.signWeight=2 ^ 63:=rfl
    have hbi:Ieee.double.binade=2 ^ 52:=rfl
    have hinf:Ieee.double.infRung=2047 * 2 ^ 52:=rfl
    rw [hsw,hbi,hinf]
    simp only
    rw [if_neg (by omega),if_neg (by omega),if_neg (by omega)]
    exact ⟨_,_,rfl⟩
  show (Ieee.double.read b).order (Ieee.double.read b)=none
  rw [hr]
  rfl
theorem zo6 (k:Nat) (t:TypeId) (x y:Nat) (w:World):∃ b w',(binOp (opF k) t (.float .f64 x) (.float .f64 y)).run Tryz.prog w=.ok (.float .f64 b) w'∧Below w.heap.size w w'∧canon b=arF k x y:=by
  cases h:floatBits (opF k) .f64 x y with
  | some r=>exact ⟨r,w,run_float_arith w _ t .f64 x y r h,.refl _ _,by unfold arF;rw [h]⟩
  | none =>
    have hcan:∀ t,canon ((t % 2) * 2 ^ 63+0x7ff0000000000000+1+(t / 2) % (2 ^ 52 - 1))=arF k x y:=fun t=>by
      unfold canon Op.floatEq arF
      rw [zmM,h]
      rfl
    have hop:∀ (op:BinOp),op=.add∨op=.sub∨op=.mul→floatBits op .f64 x y=none→ ∃ b w',(binOp op t (.float .f64 x) (.float .f64 y)).run Tryz.prog w=.ok (.float .f64 b) w'∧Below w.heap.size w w'∧canon b=arF k x y:=by
      intro op ho hn
      unfold floatBits at hn
      rcases ho with rfl|rfl|rfl
      all_goals
        simp only at hn
        refine ⟨Question.cut (.nanBits .f64 x y) (w.tape w.drawn (.nanBits .f64 x y)),{ w with drawn:=w.drawn+1 },?_,⟨rfl,rfl,rfl,Nat.le_refl _,fun _ _=>rfl⟩,hcan _⟩
        simp [binOp,Op.floatArith,hn,choose,Sem.run,Question.forced,Question.cut]
    refine hop _ ?_ h
    match k with
    | 0=>exact .inl rfl
    | 1=>exact .inr (.inl rfl)
    | k+2=>exact .inr (.inr rfl)
section
variable {nt:Nat} {w0:W0} {S0:Nat→Nat→Prop} {fr:Fr} {σ:Obs} {ops:Array Oper} {o o1 o2:Oper} {rest:List Oper} {Q:Fr→Obs→Prop} {d d1 d2 x y:Nat} {xx yy:Operand} {t t2:TypeId} {ats:Array TypeId}
theorem uAr (k:Nat) (h:RL (cx nt w0 S0) ops rest ((d2,vF (arF k x y)) :: fr) σ Q) (ho1:o1.op=.binOp (opF k) t xx yy t2:=by rfl) (ho2:o2.op=.call { callee:=.value (.func 181),args := #[.tmp d1],argTypes:=ats }:=by rfl)
    (g1:o1.guard=none:=by rfl) (g2:o2.guard=none:=by rfl) (e1:o1.dst=some d1:=by rfl) (e2:o2.dst=some d2:=by rfl) (l1:Nat.blt d1 nt=true:=by rfl) (l2:Nat.blt d2 nt=true:=by rfl)
    (hx:ev fr xx=some (vF x):=by rfl) (hy:ev fr yy=some (vF y):=by rfl) (hfresh:look fr d1=none:=by rfl):RL (cx nt w0 S0) ops (o1 :: o2 :: rest) fr σ Q :=
  ⟨fun γ T S w a K hr hk=>wpList_plain g1 fun K1 hK1=>by
    have v1:=zaw (zae hr hx)
    have v2:=zaw (zae hr hy)
    obtain ⟨b,w',hrun,hbel,hcan⟩:=zo6 k t x y w
    have x1:(execOp a.eval o1).run Tryz.prog w=.ok (.value (.float .f64 b)) w':=by
      clear hcan h
      match k,ho1,hrun with
      | 0,ho1,hrun=>simp only [opF] at ho1 hrun;simp [execOp,ho1,v1,v2,eqGuard,hrun]
      | 1,ho1,hrun=>simp only [opF] at ho1 hrun;simp [execOp,ho1,v1,v2,eqGuard,hrun]
      | k+2,ho1,hrun=>simp only [opF] at ho1 hrun;simp [execOp,ho1,v1,v2,eqGuard,hrun]
    unfold Oper.wp
    show Oper.upon Tryz.prog o1 a K1 K ((execOp a.eval o1).run Tryz.prog w)
    rw [x1,Oper.upon_value,e1]
    have hr1:=(hr.grow hbel (fun _ _ h=>h) (fun _ _ h=>.inl h)).put (dst:=some d1) (x:=vF b) l1 (.one (.v _ rfl))
    refine hK1 _ _ ?_
    have hC:RL (cx nt w0 S0) ops (o2 :: rest) ((d1,vF b) :: fr) σ Q:=zgY (X:=cx nt w0 S0) ⟨vF (canon b),(d1,vF b) :: fr,σ⟩ (by unfold wantA;rw [g2]) (by rw [e2];exact l2) ho2 (by simp [argsL,ev,look,data1,nz];rfl) (zj2 b) rfl (by
      rw [e2,hcan]
      refine zkC (fun t x ht=>?_) (fun _ _ h=>h) h
      simp only [putF,look] at ht ⊢
      split
      · rename_i e;rw [if_pos e] at ht;exact ht
      · rename_i e
        rw [if_neg e] at ht
        split
        · rename_i e';subst e';rw [hfresh] at ht;cases ht
        · exact ht)
    exact hC.out γ T S w' _ K hr1 hk⟩
theorem uIF {n:Int} (h:RL (cx nt w0 S0) ops rest ((d,vF (FloatKind.f64.nearest n)) :: fr) σ Q) (ho:o.op=.convert 2 26 xx:=by rfl) (hx:ev fr xx=some (vI n):=by rfl)
    (hw:wantA ops o fr=some true:=by rfl) (hdst:o.dst=some d:=by rfl) (hd:Nat.blt d nt=true:=by rfl):RL (cx nt w0 S0) ops (o :: rest) fr σ Q :=
  uRaw (fun γ T S w a hr=>by
    have e1:=zaw (zae hr hx)
    refine ⟨.float .f64 (FloatKind.f64.nearest n),w,S,?_,za3 S w,fun _ _=>.one (.v _ rfl)⟩
    simp [execOp,ho,e1,convert,run_underlying Tryz.underlying26,run_underlying Tryz.underlying2,Conv.intToFloat]) h hw hdst hd
end
theorem zob {s:ByteArray} {k:Nat} (hs:Ari s k) (x y:Nat):CallsV Tryz.prog 286 [vS s,vF x,vF y] (.val (vF (arF k x y))):=by
  obtain ⟨f1,f2,f3,hk⟩:=hs.facts
  rcases hk with rfl|rfl|rfl
  · (refine zaa (Ty:=Ty) zad Tryz.func286 rfl rfl rfl fun w0 S0=>?_;refine enA ?_)
    repeat' (first|refine uAr 0 ?_|refine nx ?_|(refine nx2 ?_ ?_<;>intro hb))
    all_goals exact zab (by rfl) rfl
  · (refine zaa (Ty:=Ty) zad Tryz.func286 rfl rfl rfl fun w0 S0=>?_;refine enA ?_)
    repeat' (first|refine uAr 1 ?_|refine nx ?_|(refine nx2 ?_ ?_<;>intro hb))
    all_goals exact zab (by rfl) rfl
  · (refine zaa (Ty:=Ty) zad Tryz.func286 rfl rfl rfl fun w0 S0=>?_;refine enA ?_)
    repeat' (first|refine uAr 2 ?_|refine nx ?_|(refine nx2 ?_ ?_<;>intro hb))
    all_goals exact zab (by rfl) rfl
def wideF (v:Val):Nat:=if v.kind=2 then FloatKind.f64.nearest v.n else v.f
theorem zmi (v:Val):CallsV Tryz.prog 287 [.dat (encV v)] (.val (vF (wideF v))):=by
  (refine zaa (Ty:=Ty) zad Tryz.func287 rfl rfl rfl fun w0 S0=>?_;refine enA ?_)
  repeat' (first|refine uIF ?_|refine nx ?_|(refine nx2 ?_ ?_<;>intro hb))
  all_goals exact zab (by rfl) (by unfold wideF;first|(rw [if_pos (by assumption)];done)|(rw [if_pos (by assumption)];rfl)|(rw [if_neg (by assumption)];done)|(rw [if_neg (by assumption)];rfl))
def reckonR (k:Nat) (a b:Val):Val × Int :=
  if valueRight a=false∨valueRight b=false then (zeroVal,1)
  else if a.kind=0∨b.kind=0 then (zeroVal,0)
  else if isNum a=false∨isNum b=false then (zeroVal,4)
  else if a.kind=2∧b.kind=2 then (if (wholeV k a.n b.n).2=false then (zeroVal,7) else (⟨2,(wholeV k a.n b.n).1,0,⟨#[]⟩⟩,0))
  else (⟨3,0,arF k (wideF a) (wideF b),⟨#[]⟩⟩,0)
theorem zcJ {s:ByteArray} {k:Nat} (hs:Ari s k) (a b:Val):CallsV Tryz.prog 262 [vS s,.dat (encV a),.dat (encV b)] (.val (.tup [.dat (encV (reckonR k a b).1),vI (reckonR k a b).2])):=by
  have h1:=zbE a
  have h2:=zbE b
  have h3:=zd8 a
  have h4:=zd8 b
  have h5:=zn9 hs a.n b.n
  have h6:=zob hs (wideF a) (wideF b)
  have h7:=zmi a
  have h8:=zmi b
  obtain ⟨f1,f2,f3,hk⟩:=hs.facts
  obtain ⟨r,hr⟩:∃ r,wholeV k a.n b.n=r:=⟨_,rfl⟩
  obtain ⟨q,hq⟩:∃ q,arF k (wideF a) (wideF b)=q:=⟨_,rfl⟩
  rw [hr] at h5
  rw [hq] at h6
  have hd:reckonR k a b=if valueRight a=false∨valueRight b=false then (zeroVal,1)
      else if a.kind=0∨b.kind=0 then (zeroVal,0)
      else if isNum a=false∨isNum b=false then (zeroVal,4)
      else if a.kind=2∧b.kind=2 then (if r.2=false then (zeroVal,7) else (⟨2,r.1,0,⟨#[]⟩⟩,0))
      else (⟨3,0,q,⟨#[]⟩⟩,0):=by unfold reckonR;rw [hr,hq]
  rw [hd]
  clear hd hr hq hs
  rcases hk with rfl|rfl|rfl
  · have g1:(!(s.toList==ByteArray.toList ⟨#[43]⟩))=false:=by rw [f1];rfl
    have g2:(!(s.toList==ByteArray.toList ⟨#[45]⟩))=true:=by rw [f2];rfl
    have g3:(!(s.toList==ByteArray.toList ⟨#[42]⟩))=true:=by rw [f3];rfl
    (refine zaa (Ty:=Ty) zad Tryz.func262 rfl rfl rfl fun w0 S0=>?_;refine enA ?_)
    repeat' (first|(refine uLin 7 rfl rfl ?_;simp only [List.take_succ_cons,List.take_zero,List.drop_succ_cons,List.drop_zero])|(refine isCl ?_;first|refine uC (h1) ?_|refine uC (h2) ?_|refine uC (h3) ?_|refine uC (h4) ?_|refine uC (h5) ?_|refine uC (h6) ?_|refine uC (h7) ?_|refine uC (h8) ?_)|(refine imCl ?_;first|refine mC (h1) ?_|refine mC (h2) ?_|refine mC (h3) ?_|refine mC (h4) ?_|refine mC (h5) ?_|refine mC (h6) ?_|refine mC (h7) ?_|refine mC (h8) ?_)|refine nx ?_|(refine nx2 ?_ ?_<;>intro hb))
    all_goals exact zab (by rfl) (by first|(simp [isNum,zeroVal,encV, *];done)|(simp [isNum,zeroVal,encV, *];rfl)|(simp [isNum,zeroVal,encV, *];(repeat' split)<;>first|(exfalso;omega)|exact ⟨⟨rfl,rfl,rfl,rfl⟩,rfl⟩))
  · have g1:(!(s.toList==ByteArray.toList ⟨#[43]⟩))=true:=by rw [f1];rfl
    have g2:(!(s.toList==ByteArray.toList ⟨#[45]⟩))=false:=by rw [f2];rfl
    have g3:(!(s.toList==ByteArray.toList ⟨#[42]⟩))=true:=by rw [f3];rfl
    (refine zaa (Ty:=Ty) zad Tryz.func262 rfl rfl rfl fun w0 S0=>?_;refine enA ?_)
    repeat' (first|(refine uLin 7 rfl rfl ?_;simp only [List.take_succ_cons,List.take_zero,List.drop_succ_cons,List.drop_zero])|(refine isCl ?_;first|refine uC (h1) ?_|refine uC (h2) ?_|refine uC (h3) ?_|refine uC (h4) ?_|refine uC (h5) ?_|refine uC (h6) ?_|refine uC (h7) ?_|refine uC (h8) ?_)|(refine imCl ?_;first|refine mC (h1) ?_|refine mC (h2) ?_|refine mC (h3) ?_|refine mC (h4) ?_|refine mC (h5) ?_|refine mC (h6) ?_|refine mC (h7) ?_|refine mC (h8) ?_)|refine nx ?_|(refine nx2 ?_ ?_<;>intro hb))
    all_goals exact zab (by rfl) (by first|(simp [isNum,zeroVal,encV, *];done)|(simp [isNum,zeroVal,encV, *];rfl)|(simp [isNum,zeroVal,encV, *];(repeat' split)<;>first|(exfalso;omega)|exact ⟨⟨rfl,rfl,rfl,rfl⟩,rfl⟩))
  · have g1:(!(s.toList==ByteArray.toList ⟨#[43]⟩))=true:=by rw [f1];rfl
    have g2:(!(s.toList==ByteArray.toList ⟨#[45]⟩))=true:=by rw [f2];rfl
    have g3:(!(s.toList==ByteArray.toList ⟨#[42]⟩))=false:=by rw [f3];rfl
    (refine zaa (Ty:=Ty) zad Tryz.func262 rfl rfl rfl fun w0 S0=>?_;refine enA ?_)
    repeat' (first|(refine uLin 7 rfl rfl ?_;simp only [List.take_succ_cons,List.take_zero,List.drop_succ_cons,List.drop_zero])|(refine isCl ?_;first|refine uC (h1) ?_|refine uC (h2) ?_|refine uC (h3) ?_|refine uC (h4) ?_|refine uC (h5) ?_|refine uC (h6) ?_|refine uC (h7) ?_|refine uC (h8) ?_)|(refine imCl ?_;first|refine mC (h1) ?_|refine mC (h2) ?_|refine mC (h3) ?_|refine mC (h4) ?_|refine mC (h5) ?_|refine mC (h6) ?_|refine mC (h7) ?_|refine mC (h8) ?_)|refine nx ?_|(refine nx2 ?_ ?_<;>intro hb))
    all_goals exact zab (by rfl) (by first|(simp [isNum,zeroVal,encV, *];done)|(simp [isNum,zeroVal,encV, *];rfl)|(simp [isNum,zeroVal,encV, *];(repeat' split)<;>first|(exfalso;omega)|exact ⟨⟨rfl,rfl,rfl,rfl⟩,rfl⟩))
end Go.Proofs.YtiplihojmfbjkaaGreat
