/- Walks: right patterns. -/
import Derived.Test.YtiplihojmfbjkaaGreatEA
import Derived.Test.YtiplihojmfbjkaaGreatWM
import Derived.Test.YtiplihojmfbjkaaGreatG1
import Derived.Test.YtiplihojmfbjkaaGreatG3
import Derived.Test.YtiplihojmfbjkaaGreatGD
import Derived.Test.YtiplihojmfbjkaaGreatQD
import Derived.Test.YtiplihojmfbjkaaGreatMB
set_option maxRecDepth 100000
set_option maxHeartbeats 16000000
namespace Go.Proofs.YtiplihojmfbjkaaGreat
open Go.RowKit
theorem min1 (m:Int) (x:Int) (h:(if m > 1 then m else 1)≤x):1≤x∧m≤x:=by split at h<;>omega
theorem znh1 (p:Pt) (ih:∀ q∈p.kids,CallsV Tryz.prog 112 [.dat (encP q)] (.val (vB (rightP q)))) (k1:p.kind=1):CallsV Tryz.prog 112 [.dat (encP p)] (.val (vB (rightP p))):=by
  have hC:=zfA p.kids 162 [] (fun q=>!rightP q) fun q hq=>zl4 q (ih q hq)
  rw [zgX] at hC
  have hN:=zgh p.label
  have hM:=zgh p.wher
  have hX:=zly p
  have hdef:=zbI p
  have hlm:(p.kids.map encP).length=p.kids.length:=List.length_map _
  (refine zaa (Ty:=Ty) zad Tryz.func112 rfl rfl rfl fun w0 S0=>?_;refine enA ?_)
  rw [if_pos k1] at hdef
  by_cases hmn:p.min=0
  · by_cases hmx:p.max=0
    · by_cases hd:p.dir=0
      · cases hx:elemOK p
        all_goals
          rw [hx] at hX
          repeat (first|refine uC (hX) ?_|refine nx ?_)
          exact zab (by rfl) (zao (by rw [hdef,hx];simp [plainP,hmn,hmx,hd]))
      · repeat refine nx ?_
        exact zab (by rfl) (zao (by rw [hdef];simp [hd]))
    · repeat refine nx ?_
      exact zab (by rfl) (zao (by rw [hdef];simp [plainP,hmx]))
  · repeat refine nx ?_
    exact zab (by rfl) (zao (by rw [hdef];simp [plainP,hmn]))
theorem znh2 (p:Pt) (ih:∀ q∈p.kids,CallsV Tryz.prog 112 [.dat (encP q)] (.val (vB (rightP q)))) (k1:¬ p.kind=1) (k2:p.kind=2):CallsV Tryz.prog 112 [.dat (encP p)] (.val (vB (rightP p))):=by
  have hC:=zfA p.kids 162 [] (fun q=>!rightP q) fun q hq=>zl4 q (ih q hq)
  rw [zgX] at hC
  have hN:=zgh p.label
  have hM:=zgh p.wher
  have hX:=zly p
  have hdef:=zbI p
  have hlm:(p.kids.map encP).length=p.kids.length:=List.length_map _
  (refine zaa (Ty:=Ty) zad Tryz.func112 rfl rfl rfl fun w0 S0=>?_;refine enA ?_)
  rw [if_neg k1,if_pos k2] at hdef
  by_cases hmn:p.min=0
  · by_cases hmx:p.max=0
    · by_cases hd:1≤p.dir∧p.dir≤7
      · have hI:=inY hd
        cases hx:elemOK p
        all_goals
          rw [hx] at hX
          repeat (first|(refine isCl ?_;first|refine uC (hX) ?_|refine uC (hI) ?_)|refine nx ?_)
          exact zab (by rfl) (zao (by rw [hdef,hx];simp [plainP,hmn,hmx,hd]))
      · have hI:=inO hd
        repeat (first|refine uC (hI) ?_|refine nx ?_)
        exact zab (by rfl) (zao (by rw [hdef];simp;omega))
    · repeat refine nx ?_
      exact zab (by rfl) (zao (by rw [hdef];simp [plainP,hmx]))
  · repeat refine nx ?_
    exact zab (by rfl) (zao (by rw [hdef];simp [plainP,hmn]))
theorem znh3 (p:Pt) (ih:∀ q∈p.kids,CallsV Tryz.prog 112 [.dat (encP q)] (.val (vB (rightP q)))) (k1:¬ p.kind=1) (k2:¬ p.kind=2) (k3:p.kind=3):CallsV Tryz.prog 112 [.dat (encP p)] (.val (vB (rightP p))):=by
  have hC:=zfA p.kids 162 [] (fun q=>!rightP q) fun q hq=>zl4 q (ih q hq)
  rw [zgX] at hC
  have hN:=zgh p.label
  have hM:=zgh p.wher
  have hX:=zly p
  have hdef:=zbI p
  have hlm:(p.kids.map encP).length=p.kids.length:=List.length_map _
  (refine zaa (Ty:=Ty) zad Tryz.func112 rfl rfl rfl fun w0 S0=>?_;refine enA ?_)
  rw [if_neg k1,if_neg k2,if_pos (by omega)] at hdef
  by_cases hmn:p.min=0
  · by_cases hmx:p.max=0
    · by_cases hl:p.kids.length=0
      · have he:=zb0 (decide_eq_true hl)
        repeat refine nx ?_
        exact zab (by rfl) (zao (by rw [hdef,he];simp))
      · have he:=zb0 (decide_eq_false hl)
        cases hv:emptyS p.var
        · have hv2:=zaQ _ _ hv
          repeat (first|(refine isCl ?_;first|refine uC (hN) ?_|refine uC (hM) ?_)|refine nx ?_)
          exact zab (by rfl) (zao (by rw [hdef];simp [bareP,hv]))
        · have hv2:=zaQ _ _ hv
          by_cases hd:p.dir=0
          · cases hnl:noneE p.label
            · rw [hnl] at hN
              repeat (first|(refine isCl ?_;first|refine uC (hN) ?_|refine uC (hM) ?_)|refine nx ?_)
              exact zab (by rfl) (zao (by rw [hdef];simp [bareP,hnl]))
            · rw [hnl] at hN
              cases hnw:noneE p.wher
              · rw [hnw] at hM
                repeat (first|(refine isCl ?_;first|refine uC (hN) ?_|refine uC (hM) ?_)|refine nx ?_)
                exact zab (by rfl) (zao (by rw [hdef];simp [bareP,hnw]))
              · rw [hnw] at hM
                cases ha:p.kids.all rightP
                all_goals
                  rw [ha] at hC
                  repeat (first|(refine isCl ?_;first|refine uC (hN) ?_|refine uC (hM) ?_|refine uC (hC) ?_)|refine nx ?_)
                  exact zab (by rfl) (zao (by rw [hdef,ha];simp [bareP,hv,hd,hnl,hnw,plainP,hmn,hmx,he]))
          · repeat (first|(refine isCl ?_;first|refine uC (hN) ?_|refine uC (hM) ?_)|refine nx ?_)
            exact zab (by rfl) (zao (by rw [hdef];simp [bareP,hd]))
    · repeat refine nx ?_
      exact zab (by rfl) (zao (by rw [hdef];simp [plainP,hmx]))
  · repeat refine nx ?_
    exact zab (by rfl) (zao (by rw [hdef];simp [plainP,hmn]))
theorem znh4 (p:Pt) (ih:∀ q∈p.kids,CallsV Tryz.prog 112 [.dat (encP q)] (.val (vB (rightP q)))) (k1:¬ p.kind=1) (k2:¬ p.kind=2) (k3:¬ p.kind=3) (k4:p.kind=4):CallsV Tryz.prog 112 [.dat (encP p)] (.val (vB (rightP p))):=by
  have hC:=zfA p.kids 162 [] (fun q=>!rightP q) fun q hq=>zl4 q (ih q hq)
  rw [zgX] at hC
  have hN:=zgh p.label
  have hM:=zgh p.wher
  have hX:=zly p
  have hdef:=zbI p
  have hlm:(p.kids.map encP).length=p.kids.length:=List.length_map _
  (refine zaa (Ty:=Ty) zad Tryz.func112 rfl rfl rfl fun w0 S0=>?_;refine enA ?_)
  rw [if_neg k1,if_neg k2,if_pos (by omega)] at hdef
  by_cases hmn:p.min=0
  · by_cases hmx:p.max=0
    · by_cases hl:p.kids.length=0
      · have he:=zb0 (decide_eq_true hl)
        repeat refine nx ?_
        exact zab (by rfl) (zao (by rw [hdef,he];simp))
      · have he:=zb0 (decide_eq_false hl)
        cases hv:emptyS p.var
        · have hv2:=zaQ _ _ hv
          repeat (first|(refine isCl ?_;first|refine uC (hN) ?_|refine uC (hM) ?_)|refine nx ?_)
          exact zab (by rfl) (zao (by rw [hdef];simp [bareP,hv]))
        · have hv2:=zaQ _ _ hv
          by_cases hd:p.dir=0
          · cases hnl:noneE p.label
            · rw [hnl] at hN
              repeat (first|(refine isCl ?_;first|refine uC (hN) ?_|refine uC (hM) ?_)|refine nx ?_)
              exact zab (by rfl) (zao (by rw [hdef];simp [bareP,hnl]))
            · rw [hnl] at hN
              cases hnw:noneE p.wher
              · rw [hnw] at hM
                repeat (first|(refine isCl ?_;first|refine uC (hN) ?_|refine uC (hM) ?_)|refine nx ?_)
                exact zab (by rfl) (zao (by rw [hdef];simp [bareP,hnw]))
              · rw [hnw] at hM
                cases ha:p.kids.all rightP
                all_goals
                  rw [ha] at hC
                  repeat (first|(refine isCl ?_;first|refine uC (hN) ?_|refine uC (hM) ?_|refine uC (hC) ?_)|refine nx ?_)
                  exact zab (by rfl) (zao (by rw [hdef,ha];simp [bareP,hv,hd,hnl,hnw,plainP,hmn,hmx,he]))
          · repeat (first|(refine isCl ?_;first|refine uC (hN) ?_|refine uC (hM) ?_)|refine nx ?_)
            exact zab (by rfl) (zao (by rw [hdef];simp [bareP,hd]))
    · repeat refine nx ?_
      exact zab (by rfl) (zao (by rw [hdef];simp [plainP,hmx]))
  · repeat refine nx ?_
    exact zab (by rfl) (zao (by rw [hdef];simp [plainP,hmn]))
theorem znh5 (p:Pt) (ih:∀ q∈p.kids,CallsV Tryz.prog 112 [.dat (encP q)] (.val (vB (rightP q)))) (k1:¬ p.kind=1) (k2:¬ p.kind=2) (k3:¬ p.kind=3) (k4:¬ p.kind=4) (k5:p.kind=5):CallsV Tryz.prog 112 [.dat (encP p)] (.val (vB (rightP p))):=by
  have hC:=zfA p.kids 162 [] (fun q=>!rightP q) fun q hq=>zl4 q (ih q hq)
  rw [zgX] at hC
  have hN:=zgh p.label
  have hM:=zgh p.wher
  have hX:=zly p
  have hdef:=zbI p
  have hlm:(p.kids.map encP).length=p.kids.length:=List.length_map _
  (refine zaa (Ty:=Ty) zad Tryz.func112 rfl rfl rfl fun w0 S0=>?_;refine enA ?_)
  rw [if_neg k1,if_neg k2,if_neg (by omega),if_pos k5] at hdef
  have hpl:(p.min=0∧p.max=0)∨(p.min=0∧¬ p.max=0)∨¬ p.min=0:=by omega
  by_cases h1:p.kids.length=1
  · by_cases h2:0≤p.min∧p.min≤20
    · have hI:=inY h2
      by_cases h3:p.max = -1
      · have hq:quantOK p=true:=by unfold quantOK;simp [h1,h2,h3]
        rw [hq] at hdef
        have hpl2:(p.min=0∧¬ p.max=0)∨¬ p.min=0:=by omega
        rcases hpl2 with ⟨hmn,hmx⟩|hmn
        all_goals
          cases hv:emptyS p.var
          · have hv2:=zaQ _ _ hv
            repeat (first|(refine isCl ?_;first|refine uC (hI) ?_|refine uC (hN) ?_|refine uC (hM) ?_)|refine nx ?_)
            exact zab (by rfl) (zao (by rw [hdef];simp [bareP,hv]))
          · have hv2:=zaQ _ _ hv
            by_cases hd:p.dir=0
            · cases hnl:noneE p.label
              · rw [hnl] at hN
                repeat (first|(refine isCl ?_;first|refine uC (hI) ?_|refine uC (hN) ?_|refine uC (hM) ?_)|refine nx ?_)
                exact zab (by rfl) (zao (by rw [hdef];simp [bareP,hnl]))
              · rw [hnl] at hN
                cases hnw:noneE p.wher
                · rw [hnw] at hM
                  repeat (first|(refine isCl ?_;first|refine uC (hI) ?_|refine uC (hN) ?_|refine uC (hM) ?_)|refine nx ?_)
                  exact zab (by rfl) (zao (by rw [hdef];simp [bareP,hnw]))
                · rw [hnw] at hM
                  cases ha:p.kids.all rightP
                  all_goals
                    rw [ha] at hC
                    repeat (first|(refine isCl ?_;first|refine uC (hI) ?_|refine uC (hN) ?_|refine uC (hM) ?_|refine uC (hC) ?_)|refine nx ?_)
                    exact zab (by rfl) (zao (by rw [hdef,ha];simp [bareP,hv,hd,hnl,hnw]))
            · repeat (first|(refine isCl ?_;first|refine uC (hI) ?_|refine uC (hN) ?_|refine uC (hM) ?_)|refine nx ?_)
              exact zab (by rfl) (zao (by rw [hdef];simp [bareP,hd]))
      · by_cases h4:(if p.min > 1 then p.min else 1)≤p.max∧p.max≤20
        · have hJ:=inY h4
          have hq:quantOK p=true:=by have:=min1 _ _ h4.1;unfold quantOK;simp [h1,h2];omega
          rw [hq] at hdef
          have hpl2:(p.min=0∧¬ p.max=0)∨¬ p.min=0:=by have:=(min1 _ _ h4.1).1;omega
          rcases hpl2 with ⟨hmn,hmx⟩|hmn
          all_goals
            cases hv:emptyS p.var
            · have hv2:=zaQ _ _ hv
              repeat (first|(refine isCl ?_;first|refine uC (hI) ?_|refine uC (hJ) ?_|refine uC (hN) ?_|refine uC (hM) ?_)|refine nx ?_)
              exact zab (by rfl) (zao (by rw [hdef];simp [bareP,hv]))
            · have hv2:=zaQ _ _ hv
              by_cases hd:p.dir=0
              · cases hnl:noneE p.label
                · rw [hnl] at hN
                  repeat (first|(refine isCl ?_;first|refine uC (hI) ?_|refine uC (hJ) ?_|refine uC (hN) ?_|refine uC (hM) ?_)|refine nx ?_)
                  exact zab (by rfl) (zao (by rw [hdef];simp [bareP,hnl]))
                · rw [hnl] at hN
                  cases hnw:noneE p.wher
                  · rw [hnw] at hM
                    repeat (first|(refine isCl ?_;first|refine uC (hI) ?_|refine uC (hJ) ?_|refine uC (hN) ?_|refine uC (hM) ?_)|refine nx ?_)
                    exact zab (by rfl) (zao (by rw [hdef];simp [bareP,hnw]))
                  · rw [hnw] at hM
                    cases ha:p.kids.all rightP
                    all_goals
                      rw [ha] at hC
                      repeat (first|(refine isCl ?_;first|refine uC (hI) ?_|refine uC (hJ) ?_|refine uC (hN) ?_|refine uC (hM) ?_|refine uC (hC) ?_)|refine nx ?_)
                      exact zab (by rfl) (zao (by rw [hdef,ha];simp [bareP,hv,hd,hnl,hnw]))
              · repeat (first|(refine isCl ?_;first|refine uC (hI) ?_|refine uC (hJ) ?_|refine uC (hN) ?_|refine uC (hM) ?_)|refine nx ?_)
                exact zab (by rfl) (zao (by rw [hdef];simp [bareP,hd]))
        · have hJ:=inO h4
          have hq:quantOK p=false:=by
            have h5:¬ ((1≤p.max∧p.min≤p.max)∧p.max≤20):=fun h=>h4 ⟨by split<;>omega,h.2⟩
            unfold quantOK;simp [h1,h2,h3];omega
          rw [hq] at hdef
          rcases hpl with ⟨hmn,hmx⟩ | ⟨hmn,hmx⟩|hmn
          all_goals
            repeat (first|(refine isCl ?_;first|refine uC (hI) ?_|refine uC (hJ) ?_)|refine nx ?_)
            refine zab (y':=vB false) ?_ ?_
            · rfl
            · exact zao (by rw [hdef];rfl)
    · have hI:=inO h2
      have hq:quantOK p=false:=by unfold quantOK;simp [h1];omega
      rw [hq] at hdef
      have hmn:¬ p.min=0:=by omega
      repeat (first|refine uC (hI) ?_|refine nx ?_)
      refine zab (y':=vB false) ?_ ?_
      · rfl
      · exact zao (by rw [hdef];rfl)
  · have hq:quantOK p=false:=by unfold quantOK;simp [h1]
    rw [hq] at hdef
    rcases hpl with ⟨hmn,hmx⟩ | ⟨hmn,hmx⟩|hmn
    all_goals
      repeat refine nx ?_
      exact zab (by rfl) (zao (by rw [hdef];rfl))
theorem znh6 (p:Pt) (ih:∀ q∈p.kids,CallsV Tryz.prog 112 [.dat (encP q)] (.val (vB (rightP q)))) (k1:¬ p.kind=1) (k2:¬ p.kind=2) (k3:¬ p.kind=3) (k4:¬ p.kind=4) (k5:¬ p.kind=5):CallsV Tryz.prog 112 [.dat (encP p)] (.val (vB (rightP p))):=by
  have hC:=zfA p.kids 162 [] (fun q=>!rightP q) fun q hq=>zl4 q (ih q hq)
  rw [zgX] at hC
  have hN:=zgh p.label
  have hM:=zgh p.wher
  have hX:=zly p
  have hdef:=zbI p
  have hlm:(p.kids.map encP).length=p.kids.length:=List.length_map _
  (refine zaa (Ty:=Ty) zad Tryz.func112 rfl rfl rfl fun w0 S0=>?_;refine enA ?_)
  rw [if_neg k1,if_neg k2,if_neg (by omega),if_neg k5] at hdef
  have hpl:(p.min=0∧p.max=0)∨(p.min=0∧¬ p.max=0)∨¬ p.min=0:=by omega
  rcases hpl with ⟨hmn,hmx⟩ | ⟨hmn,hmx⟩|hmn
  all_goals
    repeat refine nx ?_
    exact zab (by rfl) (zao hdef.symm)
theorem znh:∀ p:Pt,CallsV Tryz.prog 112 [.dat (encP p)] (.val (vB (rightP p))):=Pt.ind fun p ih=>by
  by_cases k1:p.kind=1
  · exact znh1 p ih k1
  by_cases k2:p.kind=2
  · exact znh2 p ih k1 k2
  by_cases k3:p.kind=3
  · exact znh3 p ih k1 k2 k3
  by_cases k4:p.kind=4
  · exact znh4 p ih k1 k2 k3 k4
  by_cases k5:p.kind=5
  · exact znh5 p ih k1 k2 k3 k4 k5
  exact znh6 p ih k1 k2 k3 k4 k5
end Go.Proofs.YtiplihojmfbjkaaGreat
