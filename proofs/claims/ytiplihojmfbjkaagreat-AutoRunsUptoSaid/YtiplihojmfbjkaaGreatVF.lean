/- Walks: operators,values,right expressions. -/
import Derived.Test.YtiplihojmfbjkaaGreatVC
import Derived.Test.YtiplihojmfbjkaaGreatH3
import Derived.Test.YtiplihojmfbjkaaGreatWM
set_option maxRecDepth 100000
set_option maxHeartbeats 4000000
namespace Go.Proofs.YtiplihojmfbjkaaGreat
open Go.RowKit
set_option maxHeartbeats 16000000
theorem zpa (s:ByteArray):CallsV Tryz.prog 255 [vS s] (.val (vI (opKids s))):=by
  (refine zaa (Ty:=Ty) zad Tryz.func255 rfl rfl rfl fun w0 S0=>?_;refine enA ?_)
  cases h0:eqL s ⟨#[61]⟩ with
  | true =>
    have g0:(s.toList==ByteArray.toList ⟨#[61]⟩)=true:=h0
    repeat refine nx ?_
    exact zab (by rfl) (zaG (by rw [opKids,h0];simp))
  | false =>
    have g0:(s.toList==ByteArray.toList ⟨#[61]⟩)=false:=h0
    cases h1:eqL s ⟨#[60,62]⟩ with
    | true =>
      have g1:(s.toList==ByteArray.toList ⟨#[60,62]⟩)=true:=h1
      repeat refine nx ?_
      exact zab (by rfl) (zaG (by rw [opKids,h0,h1];simp))
    | false =>
      have g1:(s.toList==ByteArray.toList ⟨#[60,62]⟩)=false:=h1
      cases h2:eqL s ⟨#[60]⟩ with
      | true =>
        have g2:(s.toList==ByteArray.toList ⟨#[60]⟩)=true:=h2
        repeat refine nx ?_
        exact zab (by rfl) (zaG (by rw [opKids,h0,h1,h2];simp))
      | false =>
        have g2:(s.toList==ByteArray.toList ⟨#[60]⟩)=false:=h2
        cases h3:eqL s ⟨#[60,61]⟩ with
        | true =>
          have g3:(s.toList==ByteArray.toList ⟨#[60,61]⟩)=true:=h3
          repeat refine nx ?_
          exact zab (by rfl) (zaG (by rw [opKids,h0,h1,h2,h3];simp))
        | false =>
          have g3:(s.toList==ByteArray.toList ⟨#[60,61]⟩)=false:=h3
          cases h4:eqL s ⟨#[62]⟩ with
          | true =>
            have g4:(s.toList==ByteArray.toList ⟨#[62]⟩)=true:=h4
            repeat refine nx ?_
            exact zab (by rfl) (zaG (by rw [opKids,h0,h1,h2,h3,h4];simp))
          | false =>
            have g4:(s.toList==ByteArray.toList ⟨#[62]⟩)=false:=h4
            cases h5:eqL s ⟨#[62,61]⟩ with
            | true =>
              have g5:(s.toList==ByteArray.toList ⟨#[62,61]⟩)=true:=h5
              repeat refine nx ?_
              exact zab (by rfl) (zaG (by rw [opKids,h0,h1,h2,h3,h4,h5];simp))
            | false =>
              have g5:(s.toList==ByteArray.toList ⟨#[62,61]⟩)=false:=h5
              cases h6:eqL s ⟨#[97,110,100]⟩ with
              | true =>
                have g6:(s.toList==ByteArray.toList ⟨#[97,110,100]⟩)=true:=h6
                repeat refine nx ?_
                exact zab (by rfl) (zaG (by rw [opKids,h0,h1,h2,h3,h4,h5,h6];simp))
              | false =>
                have g6:(s.toList==ByteArray.toList ⟨#[97,110,100]⟩)=false:=h6
                cases h7:eqL s ⟨#[111,114]⟩ with
                | true =>
                  have g7:(s.toList==ByteArray.toList ⟨#[111,114]⟩)=true:=h7
                  repeat refine nx ?_
                  exact zab (by rfl) (zaG (by rw [opKids,h0,h1,h2,h3,h4,h5,h6,h7];simp))
                | false =>
                  have g7:(s.toList==ByteArray.toList ⟨#[111,114]⟩)=false:=h7
                  cases h8:eqL s ⟨#[43]⟩ with
                  | true =>
                    have g8:(s.toList==ByteArray.toList ⟨#[43]⟩)=true:=h8
                    repeat refine nx ?_
                    exact zab (by rfl) (zaG (by rw [opKids,h0,h1,h2,h3,h4,h5,h6,h7,h8];simp))
                  | false =>
                    have g8:(s.toList==ByteArray.toList ⟨#[43]⟩)=false:=h8
                    cases h9:eqL s ⟨#[45]⟩ with
                    | true =>
                      have g9:(s.toList==ByteArray.toList ⟨#[45]⟩)=true:=h9
                      repeat refine nx ?_
                      exact zab (by rfl) (zaG (by rw [opKids,h0,h1,h2,h3,h4,h5,h6,h7,h8,h9];simp))
                    | false =>
                      have g9:(s.toList==ByteArray.toList ⟨#[45]⟩)=false:=h9
                      cases h10:eqL s ⟨#[42]⟩ with
                      | true =>
                        have g10:(s.toList==ByteArray.toList ⟨#[42]⟩)=true:=h10
                        repeat refine nx ?_
                        exact zab (by rfl) (zaG (by rw [opKids,h0,h1,h2,h3,h4,h5,h6,h7,h8,h9,h10];simp))
                      | false =>
                        have g10:(s.toList==ByteArray.toList ⟨#[42]⟩)=false:=h10
                        cases h11:eqL s ⟨#[110,111,116]⟩ with
                        | true =>
                          have g11:(s.toList==ByteArray.toList ⟨#[110,111,116]⟩)=true:=h11
                          repeat refine nx ?_
                          exact zab (by rfl) (zaG (by rw [opKids,h0,h1,h2,h3,h4,h5,h6,h7,h8,h9,h10,h11];simp))
                        | false =>
                          have g11:(s.toList==ByteArray.toList ⟨#[110,111,116]⟩)=false:=h11
                          cases h12:eqL s ⟨#[105,115,110,117,108,108]⟩ with
                          | true =>
                            have g12:(s.toList==ByteArray.toList ⟨#[105,115,110,117,108,108]⟩)=true:=h12
                            repeat refine nx ?_
                            exact zab (by rfl) (zaG (by rw [opKids,h0,h1,h2,h3,h4,h5,h6,h7,h8,h9,h10,h11,h12];simp))
                          | false =>
                            have g12:(s.toList==ByteArray.toList ⟨#[105,115,110,117,108,108]⟩)=false:=h12
                            repeat refine nx ?_
                            exact zab (by rfl) (zaG (by rw [opKids,h0,h1,h2,h3,h4,h5,h6,h7,h8,h9,h10,h11,h12];rfl))
theorem zas (b:Nat):ExtV Tryz.prog 182 [.one (.d (.v (.float .f64 b)))] (.one (.d (.v (.int .u64 b)))) :=
  ⟨fun S w vs h=>by
    obtain ⟨v,rfl,h1⟩:=args1 h
    rw [pv_v h1]
    exact ⟨_,by kernel_rfl,fun _ _=>.one (.v _ rfl)⟩⟩
theorem zkc:ExtV Tryz.prog 265 [.one (.d (.v (.int .u64 9221120237041090561)))] (.one (.d (.v (.float .f64 9221120237041090561)))) :=
  ⟨fun S w vs h=>by
    obtain ⟨v,rfl,h1⟩:=args1 h
    rw [pv_v h1]
    exact ⟨_,by kernel_rfl,fun _ _=>.one (.v _ rfl)⟩⟩
theorem zpY:CallsV Tryz.prog 223 [] (.val (.one (.d (.v (.float .f64 nanBits))))):=by
  (refine zaa (Ty:=Ty) zad Tryz.func223 rfl rfl rfl fun w0 S0=>?_;simp only [argsF,List.zipIdx_nil,List.map_nil])
  repeat (first|refine uE (zkc) ?_|refine nx ?_)
  exact zab (by rfl) rfl
theorem zj2 (f:Nat):CallsV Tryz.prog 181 [.one (.d (.v (.float .f64 f)))] (.val (.one (.d (.v (.float .f64 (canon f)))))):=by
  (refine zaa (Ty:=Ty) zad Tryz.func181 rfl rfl rfl fun w0 S0=>?_;refine enA ?_)
  cases h:Op.floatEq .f64 f f with
  | true =>
    have h':(!Op.floatEq .f64 f f)=false:=by rw [h];rfl
    repeat refine nx ?_
    exact zab (by rfl) (by unfold canon;rw [if_pos h];rfl)
  | false =>
    have h':(!Op.floatEq .f64 f f)=true:=by rw [h];rfl
    repeat (first|refine uC (zpY) ?_|refine nx ?_)
    exact zab (by rfl) (by unfold canon;rw [if_neg (by rw [h];decide)];rfl)
theorem zfm (b:Bool):CallsV Tryz.prog 180 [vB b] (.val (.dat (encV ⟨1,if b=true then 1 else 0,0,⟨#[]⟩⟩))):=by
  (refine zaa (Ty:=Ty) zad Tryz.func180 rfl rfl rfl fun w0 S0=>?_;refine enA ?_)
  cases b
  · repeat refine nx ?_
    exact zab (by rfl) rfl
  · repeat refine nx ?_
    exact zab (by rfl) rfl
end Go.Proofs.YtiplihojmfbjkaaGreat
namespace Go.Proofs.YtiplihojmfbjkaaGreat
open Go.RowKit
theorem zbE (v:Val):CallsV Tryz.prog 137 [.dat (encV v)] (.val (vB (valueRight v))):=by
  have hB:=zas
  have ht1:CallsV Tryz.prog 180 [vB true] (.val (.dat (encV ⟨1,1,0,⟨#[]⟩⟩))):=zfm true
  have ht0:CallsV Tryz.prog 180 [vB false] (.val (.dat (encV ⟨1,0,0,⟨#[]⟩⟩))):=zfm false
  have hcn:=zj2 v.f
  have hss:(v.s.toList==v.s.toList)=true:=by simp
  have hnn:(v.n==v.n)=true:=by simp
  (refine zaa (Ty:=Ty) zad Tryz.func137 rfl rfl rfl fun w0 S0=>?_;refine enA ?_)
  by_cases k0:v.kind=0
  · have hdef:valueRight v=(v.n==0&&emptyS v.s&&v.f==0):=by unfold valueRight;rw [if_pos k0]
    by_cases hn:v.n=0
    · cases hs:emptyS v.s with
      | false =>
        have hs2:=zaQ _ _ hs
        repeat (first|(refine isCl ?_;first|refine uC (ht1) ?_|refine uC (ht0) ?_|refine uC (hcn) ?_|refine uE (zas _) ?_)|(refine imCl ?_;first|refine mC (ht1) ?_|refine mC (ht0) ?_|refine mC (hcn) ?_|refine mE (zas _) ?_)|refine nx ?_)
        exact zab (by rfl) (zao (by rw [hdef,hs];simp))
      | true =>
        have hs2:=zaQ _ _ hs
        by_cases hf:v.f=0
        · repeat (first|(refine isCl ?_;first|refine uC (ht1) ?_|refine uC (ht0) ?_|refine uC (hcn) ?_|refine uE (zas _) ?_)|(refine imCl ?_;first|refine mC (ht1) ?_|refine mC (ht0) ?_|refine mC (hcn) ?_|refine mE (zas _) ?_)|refine nx ?_)
          exact zab (by rfl) (zao (by rw [hdef,hs,hf];simp [hn]))
        · repeat (first|(refine isCl ?_;first|refine uC (ht1) ?_|refine uC (ht0) ?_|refine uC (hcn) ?_|refine uE (zas _) ?_)|(refine imCl ?_;first|refine mC (ht1) ?_|refine mC (ht0) ?_|refine mC (hcn) ?_|refine mE (zas _) ?_)|refine nx ?_)
          exact zab (by rfl) (zao (by rw [hdef,beq_eq_false_iff_ne.2 hf];simp))
    · repeat (first|(refine isCl ?_;first|refine uC (ht1) ?_|refine uC (ht0) ?_|refine uC (hcn) ?_|refine uE (zas _) ?_)|(refine imCl ?_;first|refine mC (ht1) ?_|refine mC (ht0) ?_|refine mC (hcn) ?_|refine mE (zas _) ?_)|refine nx ?_)
      exact zab (by rfl) (zao (by rw [hdef,beq_eq_false_iff_ne.2 hn];rfl))
  by_cases k1:v.kind=1
  · have hdef:valueRight v=((v.n==0 || v.n==1)&&emptyS v.s&&v.f==0):=by unfold valueRight;rw [if_neg k0,if_pos k1]
    by_cases hn:v.n=1
    · cases hs:emptyS v.s with
      | false =>
        have hs2:=zaQ _ _ hs
        repeat (first|(refine isCl ?_;first|refine uC (ht1) ?_|refine uC (ht0) ?_|refine uC (hcn) ?_|refine uE (zas _) ?_)|(refine imCl ?_;first|refine mC (ht1) ?_|refine mC (ht0) ?_|refine mC (hcn) ?_|refine mE (zas _) ?_)|refine nx ?_)
        exact zab (by rfl) (zao (by rw [hdef,hs];simp))
      | true =>
        have hs2:=zaQ _ _ hs
        by_cases hf:v.f=0
        · repeat (first|(refine isCl ?_;first|refine uC (ht1) ?_|refine uC (ht0) ?_|refine uC (hcn) ?_|refine uE (zas _) ?_)|(refine imCl ?_;first|refine mC (ht1) ?_|refine mC (ht0) ?_|refine mC (hcn) ?_|refine mE (zas _) ?_)|refine nx ?_)
          exact zab (by rfl) (zao (by rw [hdef,hs,hf];simp [hn]))
        · repeat (first|(refine isCl ?_;first|refine uC (ht1) ?_|refine uC (ht0) ?_|refine uC (hcn) ?_|refine uE (zas _) ?_)|(refine imCl ?_;first|refine mC (ht1) ?_|refine mC (ht0) ?_|refine mC (hcn) ?_|refine mE (zas _) ?_)|refine nx ?_)
          exact zab (by rfl) (zao (by rw [hdef,beq_eq_false_iff_ne.2 hf];simp))
    by_cases hn0:v.n=0
    · cases hs:emptyS v.s with
      | false =>
        have hs2:=zaQ _ _ hs
        repeat (first|(refine isCl ?_;first|refine uC (ht1) ?_|refine uC (ht0) ?_|refine uC (hcn) ?_|refine uE (zas _) ?_)|(refine imCl ?_;first|refine mC (ht1) ?_|refine mC (ht0) ?_|refine mC (hcn) ?_|refine mE (zas _) ?_)|refine nx ?_)
        exact zab (by rfl) (zao (by rw [hdef,hs];simp))
      | true =>
        have hs2:=zaQ _ _ hs
        by_cases hf:v.f=0
        · repeat (first|(refine isCl ?_;first|refine uC (ht1) ?_|refine uC (ht0) ?_|refine uC (hcn) ?_|refine uE (zas _) ?_)|(refine imCl ?_;first|refine mC (ht1) ?_|refine mC (ht0) ?_|refine mC (hcn) ?_|refine mE (zas _) ?_)|refine nx ?_)
          exact zab (by rfl) (zao (by rw [hdef,hs,hf];simp [hn0]))
        · repeat (first|(refine isCl ?_;first|refine uC (ht1) ?_|refine uC (ht0) ?_|refine uC (hcn) ?_|refine uE (zas _) ?_)|(refine imCl ?_;first|refine mC (ht1) ?_|refine mC (ht0) ?_|refine mC (hcn) ?_|refine mE (zas _) ?_)|refine nx ?_)
          exact zab (by rfl) (zao (by rw [hdef,beq_eq_false_iff_ne.2 hf];simp))
    repeat (first|(refine isCl ?_;first|refine uC (ht1) ?_|refine uC (ht0) ?_|refine uC (hcn) ?_|refine uE (zas _) ?_)|(refine imCl ?_;first|refine mC (ht1) ?_|refine mC (ht0) ?_|refine mC (hcn) ?_|refine mE (zas _) ?_)|refine nx ?_)
    exact zab (by rfl) (zao (by rw [hdef,beq_eq_false_iff_ne.2 hn,beq_eq_false_iff_ne.2 hn0];rfl))
  by_cases k2:v.kind=2
  · have hdef:valueRight v=(emptyS v.s&&v.f==0):=by unfold valueRight;rw [if_neg k0,if_neg k1,if_pos k2]
    cases hs:emptyS v.s with
    | false =>
      have hs2:=zaQ _ _ hs
      repeat (first|(refine isCl ?_;first|refine uC (ht1) ?_|refine uC (ht0) ?_|refine uC (hcn) ?_|refine uE (zas _) ?_)|(refine imCl ?_;first|refine mC (ht1) ?_|refine mC (ht0) ?_|refine mC (hcn) ?_|refine mE (zas _) ?_)|refine nx ?_)
      exact zab (by rfl) (zao (by rw [hdef,hs];simp))
    | true =>
      have hs2:=zaQ _ _ hs
      by_cases hf:v.f=0
      · repeat (first|(refine isCl ?_;first|refine uC (ht1) ?_|refine uC (ht0) ?_|refine uC (hcn) ?_|refine uE (zas _) ?_)|(refine imCl ?_;first|refine mC (ht1) ?_|refine mC (ht0) ?_|refine mC (hcn) ?_|refine mE (zas _) ?_)|refine nx ?_)
        exact zab (by rfl) (zao (by rw [hdef,hs,hf];simp))
      · repeat (first|(refine isCl ?_;first|refine uC (ht1) ?_|refine uC (ht0) ?_|refine uC (hcn) ?_|refine uE (zas _) ?_)|(refine imCl ?_;first|refine mC (ht1) ?_|refine mC (ht0) ?_|refine mC (hcn) ?_|refine mE (zas _) ?_)|refine nx ?_)
        exact zab (by rfl) (zao (by rw [hdef,beq_eq_false_iff_ne.2 hf];simp))
  by_cases k3:v.kind=3
  · have hdef:valueRight v=(v.n==0&&emptyS v.s&&v.f==canon v.f):=by unfold valueRight;rw [if_neg k0,if_neg k1,if_neg k2,if_pos k3]
    by_cases hn:v.n=0
    · cases hs:emptyS v.s with
      | false =>
        have hs2:=zaQ _ _ hs
        repeat (first|(refine isCl ?_;first|refine uC (ht1) ?_|refine uC (ht0) ?_|refine uC (hcn) ?_|refine uE (zas _) ?_)|(refine imCl ?_;first|refine mC (ht1) ?_|refine mC (ht0) ?_|refine mC (hcn) ?_|refine mE (zas _) ?_)|refine nx ?_)
        exact zab (by rfl) (zao (by rw [hdef,hs];simp))
      | true =>
        have hs2:=zaQ _ _ hs
        by_cases hf:v.f=canon v.f
        · repeat (first|(refine isCl ?_;first|refine uC (ht1) ?_|refine uC (ht0) ?_|refine uC (hcn) ?_|refine uE (zas _) ?_)|(refine imCl ?_;first|refine mC (ht1) ?_|refine mC (ht0) ?_|refine mC (hcn) ?_|refine mE (zas _) ?_)|refine nx ?_)
          exact zab (by rfl) (zao (by rw [hdef,hs,beq_iff_eq.2 hf];simp [hn]))
        · repeat (first|(refine isCl ?_;first|refine uC (ht1) ?_|refine uC (ht0) ?_|refine uC (hcn) ?_|refine uE (zas _) ?_)|(refine imCl ?_;first|refine mC (ht1) ?_|refine mC (ht0) ?_|refine mC (hcn) ?_|refine mE (zas _) ?_)|refine nx ?_)
          exact zab (by rfl) (zao (by rw [hdef,beq_eq_false_iff_ne.2 hf];simp))
    · repeat (first|(refine isCl ?_;first|refine uC (ht1) ?_|refine uC (ht0) ?_|refine uC (hcn) ?_|refine uE (zas _) ?_)|(refine imCl ?_;first|refine mC (ht1) ?_|refine mC (ht0) ?_|refine mC (hcn) ?_|refine mE (zas _) ?_)|refine nx ?_)
      exact zab (by rfl) (zao (by rw [hdef,beq_eq_false_iff_ne.2 hn];rfl))
  by_cases k4:v.kind=4
  · have hdef:valueRight v=(v.n==0&&v.f==0):=by unfold valueRight;rw [if_neg k0,if_neg k1,if_neg k2,if_neg k3,if_pos k4]
    by_cases hn:v.n=0
    · by_cases hf:v.f=0
      · repeat (first|(refine isCl ?_;first|refine uC (ht1) ?_|refine uC (ht0) ?_|refine uC (hcn) ?_|refine uE (zas _) ?_)|(refine imCl ?_;first|refine mC (ht1) ?_|refine mC (ht0) ?_|refine mC (hcn) ?_|refine mE (zas _) ?_)|refine nx ?_)
        exact zab (by rfl) (zao (by rw [hdef,hn,hf];rfl))
      · repeat (first|(refine isCl ?_;first|refine uC (ht1) ?_|refine uC (ht0) ?_|refine uC (hcn) ?_|refine uE (zas _) ?_)|(refine imCl ?_;first|refine mC (ht1) ?_|refine mC (ht0) ?_|refine mC (hcn) ?_|refine mE (zas _) ?_)|refine nx ?_)
        exact zab (by rfl) (zao (by rw [hdef,beq_eq_false_iff_ne.2 hf];simp))
    · repeat (first|(refine isCl ?_;first|refine uC (ht1) ?_|refine uC (ht0) ?_|refine uC (hcn) ?_|refine uE (zas _) ?_)|(refine imCl ?_;first|refine mC (ht1) ?_|refine mC (ht0) ?_|refine mC (hcn) ?_|refine mE (zas _) ?_)|refine nx ?_)
      exact zab (by rfl) (zao (by rw [hdef,beq_eq_false_iff_ne.2 hn];rfl))
  repeat refine nx ?_
  exact zab (by rfl) (zao (by unfold valueRight;rw [if_neg k0,if_neg k1,if_neg k2,if_neg k3,if_neg k4]))
end Go.Proofs.YtiplihojmfbjkaaGreat
namespace Go.Proofs.YtiplihojmfbjkaaGreat
open Go.RowKit
theorem zmP (e:E) (h:CallsV Tryz.prog 219 [.dat (encE e)] (.val (vB (rightE e)))):CallsV Tryz.prog 256 [.dat (encE e)] (.val (vB (!rightE e))):=by
  (refine zaa (Ty:=Ty) zad Tryz.func256 rfl rfl rfl fun w0 S0=>?_;refine enA ?_)
  cases hr:rightE e with
  | true =>
    rw [hr] at h
    repeat (first|refine uC (h) ?_|refine nx ?_)
    exact zab (by rfl) rfl
  | false =>
    rw [hr] at h
    repeat (first|refine uC (h) ?_|refine nx ?_)
    exact zab (by rfl) rfl
theorem zgX {α:Type} (f:α→Bool) (l:List α):l.any (fun x=>!f x)=!l.all f:=by
  induction l with
  | nil=>rfl
  | cons x l ih=>rw [List.any_cons,List.all_cons,ih];cases f x<;>rfl
theorem zmz:∀ e:E,CallsV Tryz.prog 219 [.dat (encE e)] (.val (vB (rightE e))):=E.ind fun e ih=>by
  have hC:=zi9 e.kids 256 [] (fun q=>!rightE q) fun q hq=>zmP q (ih q hq)
  rw [zgX] at hC
  have hK:=zpa e.name
  have hV:=zbE e.val
  have hdef:=zg6 e
  have hlm:(e.kids.map encE).length=e.kids.length:=List.length_map _
  (refine zaa (Ty:=Ty) zad Tryz.func219 rfl rfl rfl fun w0 S0=>?_;refine enA ?_)
  by_cases k1:e.kind=1
  · rw [if_pos k1] at hdef
    cases hz:zeroV e.val
    all_goals
      cases hs:emptyS e.name
      · have hs2:=zaQ _ _ hs
        repeat refine nx ?_
        exact zab (by rfl) (zao (by rw [hdef,hs];rfl))
      · have hs2:=zaQ _ _ hs
        by_cases hl:e.kids.length=0
        · have hv:valueRight e.val=true∨valueRight e.val=false:=by cases valueRight e.val<;>simp
          rcases hv with hv|hv
          all_goals
            rw [hv] at hV
            repeat (first|refine uC (hV) ?_|refine mC (hV) ?_|refine nx ?_)
            exact zab (by rfl) (zao (by rw [hdef,hs,hv,List.eq_nil_of_length_eq_zero hl];rfl))
        · repeat refine nx ?_
          exact zab (by rfl) (zao (by
            rw [hdef,hs]
            cases hc:e.kids with
            | nil=>rw [hc] at hl;exact absurd rfl hl
            | cons _ _=>rfl))
  by_cases k2:e.kind=2
  · rw [if_neg k1,if_pos k2] at hdef
    cases hz:zeroV e.val
    all_goals
      cases hs:emptyS e.name
      · have hs2:=zl2 _ _ hs
        by_cases hl:e.kids.length=0
        · repeat refine nx ?_
          exact zab (by rfl) (zao (by rw [hdef,hs,hz,List.eq_nil_of_length_eq_zero hl];rfl))
        · repeat refine nx ?_
          exact zab (by rfl) (zao (by
            rw [hdef,hs]
            cases hc:e.kids with
            | nil=>rw [hc] at hl;exact absurd rfl hl
            | cons _ _=>rfl))
      · have hs2:=zl2 _ _ hs
        repeat refine nx ?_
        exact zab (by rfl) (zao (by rw [hdef,hs];rfl))
  by_cases k3:e.kind=3
  · rw [if_neg k1,if_neg k2,if_pos k3] at hdef
    cases hz:zeroV e.val
    · repeat refine nx ?_
      exact zab (by rfl) (zao (by rw [hdef,hz];rfl))
    · by_cases hp:opKids e.name > 0
      · by_cases hq:opKids e.name=(e.kids.length:Int)
        · have hq':(opKids e.name==((e.kids.map encE).length:Int))=true:=by rw [hlm];exact beq_iff_eq.2 hq
          cases ha:e.kids.all rightE
          all_goals
            rw [ha] at hC
            repeat (first|(refine isCl ?_;first|refine uC (hK) ?_|refine uC (hC) ?_)|(refine imCl ?_;first|refine mC (hK) ?_|refine mC (hC) ?_)|refine nx ?_)
            exact zab (by rfl) (zao (by rw [hdef,hz,ha,decide_eq_true hp,decide_eq_true hq];rfl))
        · have hq':(opKids e.name==((e.kids.map encE).length:Int))=false:=by rw [hlm];exact beq_eq_false_iff_ne.2 hq
          repeat (first|refine uC (hK) ?_|refine mC (hK) ?_|refine nx ?_)
          exact zab (by rfl) (zao (by rw [hdef,hz,decide_eq_true hp,decide_eq_false hq];rfl))
      · repeat (first|refine uC (hK) ?_|refine mC (hK) ?_|refine nx ?_)
        exact zab (by rfl) (zao (by rw [hdef,hz,decide_eq_false hp];rfl))
  rw [if_neg k1,if_neg k2,if_neg k3] at hdef
  cases hz:zeroV e.val
  all_goals
    repeat refine nx ?_
    exact zab (by rfl) (zao hdef.symm)
theorem zfu (e:E):CallsV Tryz.prog 177 [.dat (encE e)] (.val (vB (exprRight e))):=by
  have hD:=zmQ e
  have hR:=zmz e
  have hdef:exprRight e=(decide (depthE 50 e≤50)&&rightE e):=rfl
  (refine zaa (Ty:=Ty) zad Tryz.func177 rfl rfl rfl fun w0 S0=>?_;refine enA ?_)
  by_cases h:depthE 50 e≤50
  · cases hr:rightE e
    all_goals
      rw [hr] at hR
      repeat (first|(refine isCl ?_;first|refine uC (hD) ?_|refine uC (hR) ?_)|refine nx ?_)
      exact zab (by rfl) (zao (by rw [hdef,decide_eq_true h,hr];rfl))
  · repeat (first|refine uC (hD) ?_|refine nx ?_)
    exact zab (by rfl) (zao (by rw [hdef,decide_eq_false h];rfl))
end Go.Proofs.YtiplihojmfbjkaaGreat
