/- Floats: sums and products in either order;a float below 2^63 made whole is a whole number of 64 bits. -/
import Derived.Laws.FloatArith
import Derived.Test.YtiplihojmfbjkaaGreatWE
import Derived.Test.YtiplihojmfbjkaaGreatEA
import Derived.Test.YtiplihojmfbjkaaGreatWM
set_option maxRecDepth 100000
set_option maxHeartbeats 8000000
namespace Go.Proofs.YtiplihojmfbjkaaGreat
open Ieee
theorem zi6 {M:Nat} (h:M≠0):2 ^ M.log2≤M∧M < 2 ^ (M.log2+1):=⟨Nat.log2_self_le h,Nat.lt_log2_self⟩
theorem zjo (s:Bool) (M:Nat) (h0:M≠0) (hM:M≤2 ^ 63) (hd:∃ m i,m < 2 ^ 53∧M=m * 2 ^ i) :
    ∃ kept:Nat,Ieee.double.read (Ieee.double.write (.number s M 0))=.number s kept ((M.log2:Int) - 52)∧(M.log2≤52→kept=M * 2 ^ (52 - M.log2))∧(52 < M.log2→M=kept * 2 ^ (M.log2 - 52)):=by
  obtain ⟨b1,b2⟩:=zi6 h0
  have hL:M.log2≤63:=by
    refine Nat.le_of_lt_succ ?_
    have:2 ^ M.log2 < 2 ^ 64:=Nat.lt_of_le_of_lt (Nat.le_trans b1 hM) (by decide)
    exact (Nat.pow_lt_pow_iff_right (by decide)).1 this
  have hlast:max ((0:Int)+M.log2 - (Ieee.double.fractionBits:Int)) Ieee.double.leastPlace=(M.log2:Int) - 52:=by
    show max ((0:Int)+M.log2 - ((52:Nat):Int)) (2 - 2 ^ (11 - 1) - ((52:Nat):Int))=_
    omega
  obtain ⟨kept,hk,hk1,hk2,hk3,hk4⟩:∃ kept,Toward.even.cut s (M <<< (0 - ((M.log2:Int) - 52)).toNat) (((M.log2:Int) - 52) - 0).toNat=kept∧2 ^ 52≤kept∧kept < 2 ^ 53∧(M.log2≤52→kept=M * 2 ^ (52 - M.log2))∧(52 < M.log2→M=kept * 2 ^ (M.log2 - 52)):=by
    by_cases hc:M.log2≤52
    · have e1:(0 - ((M.log2:Int) - 52)).toNat=52 - M.log2:=by omega
      have e2:(((M.log2:Int) - 52) - 0).toNat=0:=by omega
      have p1:2 ^ M.log2 * 2 ^ (52 - M.log2)=2 ^ 52:=by rw [← Nat.pow_add];congr 1;omega
      have p2:2 ^ (M.log2+1) * 2 ^ (52 - M.log2)=2 ^ 53:=by rw [← Nat.pow_add];congr 1;omega
      have hp:0 < 2 ^ (52 - M.log2):=Nat.two_pow_pos _
      refine ⟨M * 2 ^ (52 - M.log2),?_,?_,?_,fun _=>rfl,fun h=>absurd h (by omega)⟩
      · rw [e1,e2,Nat.shiftLeft_eq]
        simp [Toward.cut,Nat.mod_one]
      · rw [← p1];exact Nat.mul_le_mul_right _ b1
      · rw [← p2];exact Nat.mul_lt_mul_of_pos_right b2 hp
    · have hc':52 < M.log2:=by omega
      have e1:(0 - ((M.log2:Int) - 52)).toNat=0:=by omega
      have e2:(((M.log2:Int) - 52) - 0).toNat=M.log2 - 52:=by omega
      have hdvd:2 ^ (M.log2 - 52)∣M:=by
        obtain ⟨m,i,hm,rfl⟩:=hd
        have:(m * 2 ^ i).log2≤52+i:=by
          have h1:m * 2 ^ i < 2 ^ (53+i):=by rw [Nat.pow_add];exact Nat.mul_lt_mul_of_pos_right hm (Nat.two_pow_pos _)
          have h2:2 ^ (m * 2 ^ i).log2 < 2 ^ (53+i):=Nat.lt_of_le_of_lt b1 h1
          have:=(Nat.pow_lt_pow_iff_right (by decide:1 < 2)).1 h2
          omega
        exact Nat.dvd_trans (Nat.pow_dvd_pow 2 (by omega)) (Nat.dvd_mul_left _ _)
      obtain ⟨q,hq⟩:=hdvd
      obtain ⟨L,hLL⟩:∃ L,M.log2=L:=⟨_,rfl⟩
      rw [hLL] at hq b1 b2 hc' e1 e2 hL ⊢
      have hp:0 < 2 ^ (L - 52):=Nat.two_pow_pos _
      have p1:2 ^ (L - 52) * 2 ^ 52=2 ^ L:=by rw [← Nat.pow_add];congr 1;omega
      have p2:2 ^ (L - 52) * 2 ^ 53=2 ^ (L+1):=by rw [← Nat.pow_add];congr 1;omega
      refine ⟨q,?_,?_,?_,fun h=>absurd h (by omega),fun _=>by rw [Nat.mul_comm];exact hq⟩
      · rw [e1,e2]
        have hmin:min (L - 52) (L+2)=L - 52:=by omega
        have hdiv:M / 2 ^ (L - 52)=q:=by
          conv=>lhs;rw [hq]
          exact Nat.mul_div_cancel_left _ hp
        have hmod:M % 2 ^ (L - 52)=0:=by
          conv=>lhs;rw [hq]
          exact Nat.mul_mod_right _ _
        simp only [Toward.cut,Nat.shiftLeft_zero,hLL,hmin,Nat.one_shiftLeft,hdiv,hmod]
        have h1:¬ 2 ^ (L - 52) < 2 * 0:=by omega
        have h2:(2 ^ (L - 52)==2 * 0)=false:=by rw [beq_eq_false_iff_ne];omega
        rw [decide_eq_false h1,h2]
        rfl
      · refine Nat.le_of_mul_le_mul_left ?_ hp
        rw [p1,← hq];exact b1
      · refine Nat.lt_of_mul_lt_mul_left (a:=2 ^ (L - 52)) ?_
        rw [p2,← hq];exact b2
  refine ⟨kept,?_,hk3,hk4⟩
  have hw:Ieee.double.write (.number s M 0)=Ieee.double.word s ((((M.log2:Int) - 52+1074).toNat) * 2 ^ 52+kept):=by
    show Ieee.double.nearest s M 0=_
    unfold Format.nearest
    rw [if_neg h0,hlast]
    simp only [hk]
    show Ieee.double.word s (min ((((M.log2:Int) - 52) - (2 - 2 ^ (11 - 1) - ((52:Nat):Int))).toNat * 2 ^ 52+kept) ((2 ^ 11 - 1) * 2 ^ 52))=_
    have e:(((M.log2:Int) - 52) - (2 - 2 ^ (11 - 1) - ((52:Nat):Int))).toNat=((M.log2:Int) - 52+1074).toNat:=by omega
    rw [e,Nat.min_eq_left (by omega)]
  obtain ⟨r,hr⟩:∃ r,((M.log2:Int) - 52+1074).toNat=r:=⟨_,rfl⟩
  have hr1:r=M.log2+1022:=by omega
  rw [hw,hr]
  have hword:Ieee.double.word s (r * 2 ^ 52+kept)=(if s then 2 ^ 63 else 0)+(r * 2 ^ 52+kept):=by
    unfold Format.word
    cases s
    · simp
    · rfl
  rw [hword]
  unfold Format.read
  have hsw:Ieee.double.signWeight=2 ^ 63:=rfl
  have hbi:Ieee.double.binade=2 ^ 52:=rfl
  have hinf:Ieee.double.infRung=2047 * 2 ^ 52:=rfl
  have hlp:Ieee.double.leastPlace = -1074:=rfl
  rw [hsw,hbi,hinf,hlp]
  have m1:((if s then 2 ^ 63 else 0)+(r * 2 ^ 52+kept)) % 2 ^ 63=r * 2 ^ 52+kept:=by
    cases s
    · simp only [Bool.false_eq_true,if_false];omega
    · simp only [if_true];omega
  have d1:(((if s then 2 ^ 63 else 0)+(r * 2 ^ 52+kept)) / 2 ^ 63 % 2==1)=s:=by
    cases s
    · simp only [Bool.false_eq_true,if_false,beq_eq_false_iff_ne];omega
    · simp only [if_true,beq_iff_eq];omega
  rw [m1,d1]
  simp only
  rw [if_neg (by omega),if_pos (by omega)]
  congr 1
  · omega
  · omega
theorem zgS (s:Bool) (M k:Nat) (h:M≠0):Toward.zero.cut s (M * 2 ^ k) k=M:=by
  unfold Toward.cut
  have hp:0 < 2 ^ k:=Nat.two_pow_pos _
  have hn:M * 2 ^ k≠0:=Nat.mul_ne_zero h (by omega)
  have hlog:k≤(M * 2 ^ k).log2:=by
    rw [Nat.le_log2 hn]
    exact Nat.le_mul_of_pos_left _ (Nat.pos_of_ne_zero h)
  rw [Nat.min_eq_left (by omega)]
  simp only [Nat.one_shiftLeft,Nat.mul_div_cancel _ hp,Bool.toNat_false,Nat.add_zero]
theorem zks (s:Bool) (M:Nat) (hM:M≤2 ^ 63) (hd:∃ m i,m < 2 ^ 53∧M=m * 2 ^ i) :
    (Ieee.double.read (Ieee.double.write (.number s M 0))).toInt .zero=some (if s then -(M:Int) else M):=by
  by_cases h0:M=0
  · subst h0
    cases s<;>decide
  obtain ⟨kept,h1,h2,h3⟩:=zjo s M h0 hM hd
  rw [h1]
  have hb:signed s M 0=if s then -(M:Int) else M:=by
    unfold signed
    rw [Nat.shiftLeft_zero]
  rw [← hb]
  unfold Datum.toInt
  have:Datum.integral .zero (.number s kept ((M.log2:Int) - 52))=.number s M 0:=by
    show Datum.number s (Toward.zero.cut s (kept <<< ((M.log2:Int) - 52).toNat) (-((M.log2:Int) - 52)).toNat) 0=_
    congr 1
    by_cases hc:M.log2≤52
    · have e1:((M.log2:Int) - 52).toNat=0:=by omega
      have e2:(-((M.log2:Int) - 52)).toNat=52 - M.log2:=by omega
      rw [e1,e2,Nat.shiftLeft_zero,h2 hc]
      exact zgS s M _ h0
    · have e1:((M.log2:Int) - 52).toNat=M.log2 - 52:=by omega
      have e2:(-((M.log2:Int) - 52)).toNat=0:=by omega
      rw [e1,e2,Nat.shiftLeft_eq,← h3 (by omega)]
      simp [Toward.cut]
  rw [this]
theorem zkm (f:Nat) {s:Bool} {m:Nat} {i:Int} (h:Ieee.double.read f=.number s m i):m < 2 ^ 53:=by
  unfold Format.read at h
  simp only at h
  have hb:Ieee.double.binade=2 ^ 52:=rfl
  split at h
  · injection h with _ h2 _
    omega
  · split at h
    · injection h with _ h2 _
      have:=Nat.mod_lt (f % Ieee.double.signWeight) (show 0 < Ieee.double.binade by decide)
      omega
    · split at h<;>cases h
theorem zkq (f:Nat) (hn:Ieee.double.order f f=some .eq) (hg:Ieee.double.order f 4890909195324358656≠some .gt) (hg':Ieee.double.order f 4890909195324358656≠some .eq) (hl:Ieee.double.order f 14114281232179134464≠some .lt) :
    ∃ n:Int, -9223372036854775808≤n∧n≤9223372036854775807∧(Ieee.double.read (Ieee.double.write ((Ieee.double.read f).integral .down))).toInt .zero=some n:=by
  have r1:Ieee.double.read 4890909195324358656=.number false (2 ^ 52) 11:=by decide
  have r2:Ieee.double.read 14114281232179134464=.number true (2 ^ 52) 11:=by decide
  unfold Format.order at hn hg hg' hl
  rw [r1] at hg hg'
  rw [r2] at hl
  cases hf:Ieee.double.read f with
  | nan s t=>rw [hf] at hn;cases hn
  | infinity s =>
    rw [hf] at hg hl
    cases s
    · exact absurd rfl hg
    · exact absurd rfl hl
  | number s m i =>
    have hm:=zkm f hf
    rw [hf] at hg hg' hl
    simp only [Datum.order] at hg hg' hl
    -- what is compared
    have hcmp:s=false→11≤i→m * 2 ^ (i - 11).toNat < 2 ^ 52:=fun hs hi=>by
      subst hs
      have e:min i 11=11:=by omega
      rw [e] at hg hg'
      simp only [signed,Bool.false_eq_true,if_false,Nat.shiftLeft_eq] at hg hg'
      have e0:((11:Int) - 11).toNat=0:=by decide
      rw [e0,Nat.pow_zero,Nat.mul_one] at hg hg'
      refine Nat.lt_of_not_le fun hle=>?_
      rcases Nat.lt_or_eq_of_le hle with h|h
      · refine hg ?_
        rw [show compare ((m * 2 ^ (i - 11).toNat:Nat):Int) ((2 ^ 52:Nat):Int)=.gt from by rw [Int.compare_eq_gt];omega]
      · refine hg' ?_
        rw [← h,show compare ((2 ^ 52:Nat):Int) ((2 ^ 52:Nat):Int)=.eq from by rw [Int.compare_eq_eq]]
    have hcmp2:s=true→11≤i→m * 2 ^ (i - 11).toNat≤2 ^ 52:=fun hs hi=>by
      subst hs
      have e:min i 11=11:=by omega
      rw [e] at hl
      simp only [signed,if_true,Nat.shiftLeft_eq] at hl
      have e0:((11:Int) - 11).toNat=0:=by decide
      rw [e0,Nat.pow_zero,Nat.mul_one] at hl
      refine Nat.le_of_not_lt fun hlt=>hl ?_
      rw [show compare (-((m * 2 ^ (i - 11).toNat:Nat):Int)) (-((2 ^ 52:Nat):Int))=.lt from by rw [Int.compare_eq_lt];omega]
    obtain ⟨M,hM⟩:∃ M,Toward.down.cut s (m <<< i.toNat) (-i).toNat=M:=⟨_,rfl⟩
    have hint:Datum.integral .down (.number s m i)=.number s M 0:=by
      show Datum.number s (Toward.down.cut s (m <<< i.toNat) (-i).toNat) 0=_
      rw [hM]
    have key:(s=false→M < 2 ^ 63)∧M≤2 ^ 63∧ ∃ m i,m < 2 ^ 53∧M=m * 2 ^ i:=by
      by_cases hi:0≤i
      · have e1:(-i).toNat=0:=by omega
        have hM2:M=m * 2 ^ i.toNat:=by
          rw [← hM,e1,Nat.shiftLeft_eq]
          simp [Toward.cut,Nat.mod_one]
        by_cases h11:11≤i
        · have e2:i.toNat=(i - 11).toNat+11:=by omega
          have hM3:M=m * 2 ^ (i - 11).toNat * 2 ^ 11:=by rw [hM2,e2,Nat.pow_add,Nat.mul_assoc]
          refine ⟨fun hs=>?_,?_,m,i.toNat,hm,hM2⟩
          · have:=hcmp hs h11
            rw [hM3]
            have:m * 2 ^ (i - 11).toNat * 2 ^ 11 < 2 ^ 52 * 2 ^ 11:=Nat.mul_lt_mul_of_pos_right this (by decide)
            exact Nat.lt_of_lt_of_eq this (by decide)
          · rw [hM3]
            have:m * 2 ^ (i - 11).toNat≤2 ^ 52:=by
              cases s
              · exact Nat.le_of_lt (hcmp rfl h11)
              · exact hcmp2 rfl h11
            exact Nat.le_trans (Nat.mul_le_mul_right _ this) (by decide)
        · have:M < 2 ^ 63:=by
            rw [hM2]
            have h1:2 ^ i.toNat≤2 ^ 10:=Nat.pow_le_pow_right (by decide) (by omega)
            have h2:m * 2 ^ i.toNat≤m * 2 ^ 10:=Nat.mul_le_mul_left _ h1
            have h3:m * 2 ^ 10 < 2 ^ 53 * 2 ^ 10:=Nat.mul_lt_mul_of_pos_right hm (by decide)
            exact Nat.lt_of_lt_of_eq (Nat.lt_of_le_of_lt h2 h3) (by decide)
          exact ⟨fun _=>this,Nat.le_of_lt this,m,i.toNat,hm,hM2⟩
      · have e1:i.toNat=0:=by omega
        have hle:M≤m+1:=by
          rw [← hM,e1,Nat.shiftLeft_zero]
          unfold Toward.cut
          have h1:m / (1 <<< min (-i).toNat (m.log2+2))≤m:=Nat.div_le_self _ _
          have h2:∀ b:Bool,b.toNat≤1:=fun b=>by cases b<;>decide
          have:=h2 (s&&m % (1 <<< min (-i).toNat (m.log2+2)) != 0)
          simp only
          omega
        refine ⟨fun _=>by omega,by omega,?_⟩
        by_cases hlt:M < 2 ^ 53
        · exact ⟨M,0,hlt,by rw [Nat.pow_zero,Nat.mul_one]⟩
        · exact ⟨1,53,by decide,by omega⟩
    obtain ⟨k1,k2,k3⟩:=key
    rw [hint,zks s M k2 k3]
    refine ⟨_,?_,?_,rfl⟩
    · cases s
      · simp only [Bool.false_eq_true,if_false];omega
      · simp only [if_true];omega
    · cases s
      · have:=k1 rfl
        simp only [Bool.false_eq_true,if_false];omega
      · simp only [if_true];omega
end Go.Proofs.YtiplihojmfbjkaaGreat
namespace Go.Proofs.YtiplihojmfbjkaaGreat
abbrev vF (f:Nat):VV:=.one (.d (.v (.float .f64 f)))
abbrev vUE (n:Int):VV:=.one (.d (.v (.int .u64 n)))
end Go.Proofs.YtiplihojmfbjkaaGreat
namespace Go.Proofs.YtiplihojmfbjkaaGreat
open Go.RowKit
def isNum (v:Val):Bool:=decide (v.kind=2∨v.kind=3)
def cmpI (a b:Int):Int:=if a < b then -1 else if a > b then 1 else 0
def cmpS (a b:ByteArray):Int:=if Op.bytesLess a.toList b.toList=true then -1 else if (Op.bytesLess a.toList b.toList || a.toList==b.toList)=true then 0 else 1
def nanF (f:Nat):Bool:=!Op.floatEq .f64 f f
def ordF (a b:Nat):Option Ordering:=FloatKind.f64.format.order a b
def cmpF (a b:Nat):Int:=if nanF a=true then (if nanF b=true then 0 else -1) else if nanF b=true then 1 else if (ordF a b==some .lt)=true then -1 else if (ordF a b==some .gt)=true then 1 else 0
theorem zd8 (v:Val):CallsV Tryz.prog 284 [.dat (encV v)] (.val (vB (isNum v))):=by
  (refine zaa (Ty:=Ty) zad Tryz.func284 rfl rfl rfl fun w0 S0=>?_;refine enA ?_)
  repeat' (first|refine nx ?_|(refine nx2 ?_ ?_<;>intro hb))
  all_goals exact zab (by rfl) (zao (by unfold isNum;first|(simp [*];done)|(simp [*];rfl)))
theorem zo9 (a:Int):CallsV Tryz.prog 309 [vI a] (.val (vB false)):=by
  have h:(a != a)=false:=by simp
  (refine zaa (Ty:=Ty) zad Tryz.func309 rfl rfl rfl fun w0 S0=>?_;refine enA ?_)
  repeat refine nx ?_
  exact zab (by rfl) rfl
theorem zoS (a:ByteArray):CallsV Tryz.prog 242 [vS a] (.val (vB false)):=by
  have h:(!(a.toList==a.toList))=false:=by simp
  (refine zaa (Ty:=Ty) zad Tryz.func242 rfl rfl rfl fun w0 S0=>?_;refine enA ?_)
  repeat refine nx ?_
  exact zab (by rfl) rfl
theorem zl1 (a:Nat):CallsV Tryz.prog 308 [vF a] (.val (vB (nanF a))):=by
  (refine zaa (Ty:=Ty) zad Tryz.func308 rfl rfl rfl fun w0 S0=>?_;refine enA ?_)
  repeat refine nx ?_
  exact zab (by rfl) rfl
theorem zii (a b:Int):CallsV Tryz.prog 303 [vI a,vI b] (.val (vI (cmpI a b))):=by
  (refine zaa (Ty:=Ty) zad Tryz.func303 rfl rfl rfl fun w0 S0=>?_;refine enA ?_)
  repeat' (first|refine uC (zo9 _) ?_|refine nx ?_|(refine nx2 ?_ ?_<;>intro hb))
  all_goals exact zab (by rfl) (zaG (by unfold cmpI;(repeat' split)<;>omega))
theorem zmu (a b:ByteArray):CallsV Tryz.prog 302 [vS a,vS b] (.val (vI (cmpS a b))):=by
  (refine zaa (Ty:=Ty) zad Tryz.func302 rfl rfl rfl fun w0 S0=>?_;refine enA ?_)
  repeat' (first|refine uC (zoS _) ?_|refine nx ?_|(refine nx2 ?_ ?_<;>intro hb))
  all_goals exact zab (by rfl) (zaG (by unfold cmpS;simp_all))
theorem zlz (a b:Nat):CallsV Tryz.prog 301 [vF a,vF b] (.val (vI (cmpF a b))):=by
  have ha:=zl1 a
  have hb:=zl1 b
  cases h1:nanF a<;>cases h2:nanF b<;>rw [h1] at ha<;>rw [h2] at hb
  all_goals
    (refine zaa (Ty:=Ty) zad Tryz.func301 rfl rfl rfl fun w0 S0=>?_;refine enA ?_)
    repeat' (first|(refine isCl ?_;first|refine uC (ha) ?_|refine uC (hb) ?_)|refine nx ?_|(refine nx2 ?_ ?_<;>intro hb))
    all_goals exact zab (by rfl) (zaG (by unfold cmpF ordF;simp_all))
def two63:Nat:=4890909195324358656
def neg63:Nat:=14114281232179134464
def floorF (f:Nat):Nat:=Ieee.double.write ((Ieee.double.read f).integral .down)
def toI64 (f:Nat):Int:=(floatToIntVal .f64 f .i64).getD 0
theorem zoc {f:Nat} (h:nanF f=false):∀ s t,Ieee.double.read f≠.nan s t:=fun s t e=>by
  unfold nanF Op.floatEq at h
  have:FloatKind.f64.format.order f f=none:=by
    show (Ieee.double.read f).order (Ieee.double.read f)=none
    rw [e];rfl
  rw [this] at h
  cases h
theorem zor {f:Nat} (h:nanF f=false):ExtV Tryz.prog 310 [vF f] (vF (floorF f)) :=
  ⟨fun S w vs ha=>by
    obtain ⟨v,rfl,h1⟩:=args1 ha
    rw [pv_v h1]
    refine ⟨.float .f64 (floorF f),?_,fun _ _=>.one (.v _ rfl)⟩
    have e:(callFunc 310 #[.float .f64 f]).run Tryz.prog w=((do
        let v ← (match Ieee.double.read f with
          | .nan s t=>if Ieee.double.quiet t=t then pure (Value.float .f64 f) else do
            let kept ← choose (.extern "math.Floor,Ceil,Trunc,RoundToEven.signallingNaN kept" 2)
            pure (Value.float .f64 (if kept==1 then f else FloatKind.f64.encode (.nan s (Ieee.double.quiet t))))
          | d=>pure (Value.float .f64 (FloatKind.f64.encode (d.integral .down))))
        pure (Next.value v)):Sem Next).run Tryz.prog w:=by kernel_rfl
    show (callFunc 310 #[.float .f64 f]).run Tryz.prog w=_
    rw [e]
    have hn:=zoc h
    unfold floorF
    cases hr:Ieee.double.read f with
    | nan s t=>exact absurd hr (hn s t)
    | infinity s=>rfl
    | number s m i=>rfl⟩
theorem zoC {f:Nat} (h:nanF f=false):CallsV Tryz.prog 307 [vF f] (.val (vF (floorF f))):=by
  have hx:=zor h
  (refine zaa (Ty:=Ty) zad Tryz.func307 rfl rfl rfl fun w0 S0=>?_;refine enA ?_)
  repeat (first|refine uE (hx) ?_|refine nx ?_)
  exact zab (by rfl) rfl
theorem uFI {nt:Nat} {w0:W0} {S0:Nat→Nat→Prop} {fr:Fr} {σ:Obs} {ops:Array Oper} {o:Oper} {rest:List Oper} {Q:Fr→Obs→Prop} {d f:Nat} {x:Operand} {n:Int} (hn:floatToIntVal .f64 f .i64=some n) (h:RL (cx nt w0 S0) ops rest ((d,vI n) :: fr) σ Q) (ho:o.op=.convert 26 2 x:=by rfl) (hx:ev fr x=some (vF f):=by rfl)
    (hw:wantA ops o fr=some true:=by rfl) (hdst:o.dst=some d:=by rfl) (hd:Nat.blt d nt=true:=by rfl):RL (cx nt w0 S0) ops (o :: rest) fr σ Q :=
  uRaw (fun γ T S w a hr=>by
    have e1:=zaw (zae hr hx)
    refine ⟨.int .i64 n,w,S,?_,za3 S w,fun _ _=>.one (.v _ rfl)⟩
    simp only [execOp,ho,e1,Sem.run_bind,run_convert_float_int w _ _ .f64 .i64 f n (by rw [Tryz.underlying26];rfl) Tryz.underlying2 hn,Result.andThen_ok,Sem.run_pure]) h hw hdst hd
def agN (n:Int) (f:Nat):Int × Bool :=
  if nanF f=true then (0,false)
  else if (ordF f two63==some .gt || ordF f two63==some .eq)=true then (-1,true)
  else if (ordF f neg63==some .lt)=true then (1,true)
  else if cmpI n (toI64 (floorF f))≠0∨Op.floatEq .f64 (floorF f) f=true then (cmpI n (toI64 (floorF f)),true)
  else (-1,true)
theorem znH (n:Int) (f:Nat):CallsV Tryz.prog 300 [vI n,vF f] (.val (.tup [vI (agN n f).1,vB (agN n f).2])):=by
  cases h1:nanF f with
  | true =>
    have h1':(!Op.floatEq .f64 f f)=true:=h1
    have hd:agN n f=(0,false):=by unfold agN;rw [if_pos h1]
    rw [hd]
    (refine zaa (Ty:=Ty) zad Tryz.func300 rfl rfl rfl fun w0 S0=>?_;refine enA ?_)
    repeat refine nx ?_
    exact zab (by rfl) rfl
  | false =>
    have h1':(!Op.floatEq .f64 f f)=false:=h1
    cases h2:(ordF f two63==some .gt || ordF f two63==some .eq) with
    | true =>
      have h2':(FloatKind.f64.format.order f 4890909195324358656==some .gt || FloatKind.f64.format.order f 4890909195324358656==some .eq)=true:=h2
      have hd:agN n f=(-1,true):=by unfold agN;rw [if_neg (by rw [h1];decide),if_pos h2]
      rw [hd]
      (refine zaa (Ty:=Ty) zad Tryz.func300 rfl rfl rfl fun w0 S0=>?_;refine enA ?_)
      repeat refine nx ?_
      exact zab (by rfl) rfl
    | false =>
      have h2':(FloatKind.f64.format.order f 4890909195324358656==some .gt || FloatKind.f64.format.order f 4890909195324358656==some .eq)=false:=h2
      cases h3:(ordF f neg63==some .lt) with
      | true =>
        have h3':(FloatKind.f64.format.order f 14114281232179134464==some .lt)=true:=h3
        have hd:agN n f=(1,true):=by unfold agN;rw [if_neg (by rw [h1];decide),if_neg (by rw [h2];decide),if_pos h3]
        rw [hd]
        (refine zaa (Ty:=Ty) zad Tryz.func300 rfl rfl rfl fun w0 S0=>?_;refine enA ?_)
        repeat refine nx ?_
        exact zab (by rfl) rfl
      | false =>
        have h3':(FloatKind.f64.format.order f 14114281232179134464==some .lt)=false:=h3
        have hF:=zoC h1
        obtain ⟨m,hm⟩:∃ m,floatToIntVal .f64 (floorF f) .i64=some m:=by
          rw [Bool.or_eq_false_iff] at h2
          have q1:FloatKind.f64.format.order f f=some .eq:=by
            unfold nanF Op.floatEq at h1
            simpa using h1
          have q2:FloatKind.f64.format.order f two63≠some .gt:=by simpa [ordF] using h2.1
          have q3:FloatKind.f64.format.order f two63≠some .eq:=by simpa [ordF] using h2.2
          have q4:FloatKind.f64.format.order f neg63≠some .lt:=by simpa [ordF] using h3
          obtain ⟨m,b1,b2,b3⟩:=zkq f q1 q2 q3 q4
          refine ⟨m,?_⟩
          unfold floatToIntVal
          have e:(FloatKind.f64.decode (floorF f)).toInt .zero=some m:=b3
          rw [e]
          exact if_pos ⟨b1,b2⟩
        have hI:toI64 (floorF f)=m:=by unfold toI64;rw [hm];rfl
        have hC:=zii n m
        have hd:agN n f=if cmpI n m≠0∨Op.floatEq .f64 (floorF f) f=true then (cmpI n m,true) else (-1,true):=by
          unfold agN;rw [if_neg (by rw [h1];decide),if_neg (by rw [h2];decide),if_neg (by rw [h3];decide),hI]
        rw [hd]
        (refine zaa (Ty:=Ty) zad Tryz.func300 rfl rfl rfl fun w0 S0=>?_;refine enA ?_)
        repeat' (first|(refine isRL ?_;first|refine uFI hm ?_|(refine isCl ?_;first|refine uC (hF) ?_|refine uC (hC) ?_))|refine nx ?_|(refine nx2 ?_ ?_<;>intro hb))
        all_goals exact zab (by rfl) (tupIB (by simp [*]) (by simp [*]))
def agV (a b:Val):Int × Bool :=
  if a.kind=2∧b.kind=3 then agN a.n b.f
  else if a.kind=3∧b.kind=2 then (IntKind.i64.wrap (0 - (agN b.n a.f).1),(agN b.n a.f).2)
  else if a.kind=3 then (cmpF a.f b.f,Op.floatEq .f64 a.f a.f&&Op.floatEq .f64 b.f b.f)
  else if a.kind=4 then (cmpS a.s b.s,true)
  else (cmpI a.n b.n,true)
theorem zme (a b:Val):CallsV Tryz.prog 289 [.dat (encV a),.dat (encV b)] (.val (.tup [vI (agV a b).1,vB (agV a b).2])):=by
  cases hA:Op.floatEq .f64 a.f a.f<;>cases hB:Op.floatEq .f64 b.f b.f
  all_goals
    (refine zaa (Ty:=Ty) zad Tryz.func289 rfl rfl rfl fun w0 S0=>?_;refine enA ?_)
    repeat' (first|(refine isCl ?_;first|refine uC (znH _ _) ?_|refine uC (zlz _ _) ?_|refine uC (zmu _ _) ?_|refine uC (zii _ _) ?_)|(refine imCl ?_;first|refine mC (znH _ _) ?_|refine mC (zlz _ _) ?_|refine mC (zmu _ _) ?_|refine mC (zii _ _) ?_)|refine nx ?_|(refine nx2 ?_ ?_<;>intro hb))
    all_goals exact zab (by rfl) (tupIB (by simp [agV, *]) (by simp [agV, *]))
end Go.Proofs.YtiplihojmfbjkaaGreat
