/- The law AutoRuns holds of every input that is no larger than the second form asks: it returns true,and each argument reads as it read before. -/
import Derived.Test.YtiplihojmfbjkaaGreatRows
import Derived.Test.YtiplihojmfbjkaaGreatGJ
import Derived.Test.YtiplihojmfbjkaaGreatGD
import Derived.WalkKit
import Derived.ProofKit
import Derived.OpenShut
import Derived.ShutString
import Derived.ChangeOld
import Derived.Below
import Derived.SizedLaws
import Derived.JoinedCond
import Derived.Deep.CondSized
set_option maxRecDepth 100000
namespace Go.Proofs.YtiplihojmfbjkaaGreat.autoRuns
open Go.ChangeShapes Go.WideShapes Go.ChangeAt Go.RowKit
theorem own:ownKnob Tryz.prog.godebug=none:=by kernel_rfl
theorem laidOut:laidOutB Tryz.prog=true:=by kernel_rfl
theorem lifted (os:Os) (started:os.Started) (H:Type) (enc:TypeId × Value→H) (F:Stop.Interp) :
    ReturnsInHanded {} Tryz.checked os 7 .any ((Rows.OpenSpec.upto Rows.autoRunsSpec).pre6 enc Tryz.prog Tryz.f7 Rows.autoRunsUptoRow.domain false) (((Rows.OpenSpec.upto Rows.autoRunsSpec).at F).post enc Tryz.prog Tryz.f7 false true false false):=by
  refine returnsInHanded_of_cond_sized (C:=Tryz.checked) (s:=(Rows.OpenSpec.upto Rows.autoRunsSpec)) (k:=Rows.uptoSmall) rfl own started (by kernel_rfl) Tryz.func7
    (OpenSpec.witness (enc:=enc) (C:=Tryz.checked) (s:=(Rows.OpenSpec.upto Rows.autoRunsSpec)) (k:=Rows.uptoSmall) rfl false ⟨#[], #[.agg #[.slice none 0 0,.slice none 0 0],.agg #[.int .i64 0,.string ByteArray.empty,.int .i64 0,.int .i64 0,.string ByteArray.empty,.int .i64 0,.int .i64 0,.float .f64 0,.string ByteArray.empty,.slice none 0 0,.int .i64 0,.string ByteArray.empty,.int .i64 0,.int .i64 0,.float .f64 0,.string ByteArray.empty,.slice none 0 0,.int .i64 0,.int .i64 0,.slice none 0 0],.int .i64 0,.slice none 0 0],[]⟩ 8 (by kernel_rfl) (by kernel_rfl) (by kernel_rfl) (x:=([.agg [.nil,.nil],.agg [.lit (.int .i64 0),.lit (.string []),.lit (.int .i64 0),.agg [.lit (.int .i64 0),.lit (.string []),.agg [.lit (.int .i64 0),.lit (.int .i64 0),.lit (.float .f64 0),.lit (.string [])],.nil],.agg [.lit (.int .i64 0),.lit (.string []),.agg [.lit (.int .i64 0),.lit (.int .i64 0),.lit (.float .f64 0),.lit (.string [])],.nil],.lit (.int .i64 0),.lit (.int .i64 0),.nil],.lit (.int .i64 0),.nil],[],[])) (by kernel_rfl) rfl (by kernel_rfl)) ?_
  intro W base args ds gs before hval0 hW hcnd hk0 hsz0 _
  have hsz:(DataW.weightsEach Tryz.prog (Tryz.f7.params.toList++Rows.autoRunsSpec.plain.varTypes Tryz.prog) (ds++gs)).all (· ≤ reachBytes)=true:=hsz0
  have hval:∀ (j:Nat) t v,Tryz.f7.params[j]?=some t→args[j]?=some v→Value.okWide Tryz.prog W .any base t v:=hval0
  have hk:=zmZ hk0
  have hW':=hW
  obtain ⟨p,q,hA0,hV,rfl,hfz,hnd⟩:=hW
  have hA:DataW.TrodAll enc Tryz.prog W 0 (fun _=>true) true Tryz.f7.params.toList args.toList ds p:=hA0
  rw [Tryz.params7] at hA hval hsz
  obtain ⟨v0,vs0,d0,ds0,p0,q0,hargs,rfl,rfl,h0,r0⟩:=trodAll_cons hA
  obtain ⟨v1,vs1,d1,ds1,p1,q1,rfl,rfl,rfl,h1,r1⟩:=trodAll_cons r0
  obtain ⟨v2,vs2,d2,ds2,p2,q2,rfl,rfl,rfl,h2,r2⟩:=trodAll_cons r1
  obtain ⟨v3,vs3,d3,ds3,p3,q3,rfl,rfl,rfl,h3,r3⟩:=trodAll_cons r2
  obtain ⟨rfl,rfl,rfl⟩:=trodAll_nil r3
  obtain rfl:args = #[v0,v1,v2,v3]:=by cases args;simp_all
  obtain ⟨rfl,rfl⟩:=trodVars_none hV
  have k0:=h0
  have lt0:∀ x∈p0,x.block < W.heap.size:=by obtain ⟨m,hm⟩:=k0;exact DataW.trod_lt m _ _ _ hm
  obtain ⟨x0,z0,y0⟩:=zkB hsz (j:=0) rfl rfl (hval 0 25 v0 rfl rfl) h0
  have b0:=Nat.le_trans y0 (hk d0 (by simp))
  have k1:=h1
  have lt1:∀ x∈p1,x.block < W.heap.size:=by obtain ⟨m,hm⟩:=k1;exact DataW.trod_lt m _ _ _ hm
  obtain ⟨x1,z1,y1⟩:=znr hsz (j:=1) rfl rfl (hval 1 34 v1 rfl rfl) h1
  have b1:=Nat.le_trans y1 (hk d1 (by simp))
  obtain ⟨a2,rfl,rfl,rfl,w2⟩:=open_int Tryz.underlying3 (hval 2 3 v2 rfl rfl) h2
  have k3:=h3
  have lt3:∀ x∈p3,x.block < W.heap.size:=by obtain ⟨m,hm⟩:=k3;exact DataW.trod_lt m _ _ _ hm
  obtain ⟨x3,z3,y3⟩:=zmm hsz (j:=3) rfl rfl (hval 3 55 v3 rfl rfl) h3
  have b3:=Nat.le_trans y3 (hk d3 (by simp))
  clear hA0 hval0 hsz0 hsz
  refine ((zkt x0 b0 x1 b1 a2 x3 b3).out (SW_ W) W [v0,v1,.int .i64 a2,v3] (zc7 z0 (zc7 z1 (zc7 (zp9 rfl) (zc7 z3 zls)))) (fun _ _ hs=>hs)).mono fun e W' hq=>?_
  obtain ⟨v,S',rfl,bel,_,_,hv⟩:=hq
  obtain rfl:=pv_v hv
  exact ⟨_,rfl,_,_,_,[],_,[],hW',trodAll_mk1 (shut_bool Tryz.underlying4 _),(trodAll_cons_mk (Below.trod laidOut (by kernel_rfl) (of_decide_eq_true (by kernel_rfl)) k0 bel lt0) (trodAll_cons_mk (Below.trod laidOut (by kernel_rfl) (of_decide_eq_true (by kernel_rfl)) k1 bel lt1) (trodAll_cons_mk (shut_int Tryz.underlying3 w2) (trodAll_cons_mk (Below.trod laidOut (by kernel_rfl) (of_decide_eq_true (by kernel_rfl)) k3 bel lt3) trodAll_mk0)))),rfl,bel.frame _,fun h=>by cases h⟩
theorem cA:(Rows.autoRunsUptoRow.inPlace==Tryz.pinned.checked.prog.inPlace 7)=true:=by kernel_rfl
theorem cB:(Rows.autoRunsUptoRow.unfollowed==Tryz.pinned.checked.prog.unfollowed 7)=true:=by kernel_rfl
theorem cC:(Rows.autoRunsUptoRow.recurses==Tryz.pinned.checked.prog.recurses 7)=true:=by kernel_rfl
theorem cD:(Rows.autoRunsUptoRow.named==Tryz.pinned.checked.prog.varsNamed 7)=true:=by kernel_rfl
theorem cE:(Rows.autoRunsUptoRow.wf (OpenSpec.ofChange (Rows.OpenSpec.upto Rows.autoRunsSpec).bare)&&laidOutB Tryz.pinned.checked.prog&&mapsRowed Tryz.pinned.checked.prog)=true:=by kernel_rfl
theorem cF:(Rows.autoRunsUptoRow.plainKeys==Tryz.pinned.checked.prog.plainKeys)=true:=by kernel_rfl
theorem cG:Tryz.pinned.checked.prog.stopsHeard=true:=by kernel_rfl
theorem cH:Tryz.pinned.checked.prog.mayEnter=true:=by kernel_rfl
theorem cI:(Rows.autoRunsUptoRow.lifted==Tryz.pinned.checked.prog.liftsFinal)=true:=by kernel_rfl
theorem closed:joinedFacts Tryz.pinned.checked.prog 7 Tryz.f7 (Rows.OpenSpec.upto Rows.autoRunsSpec).bare Rows.autoRunsUptoRow=true:=by
  unfold joinedFacts
  rw [cA,cB,cC,cD,cE,cF,cG,cH,cI]
  kernel_rfl
theorem over:Rows.autoRunsUptoRow.holds Tryz.pinned (Rows.OpenSpec.upto Rows.autoRunsSpec) :=
  OpenClaim.holds_of_cond 7 Tryz.f7 rfl rfl rfl rfl rfl rfl rfl ⟨rfl,rfl,rfl,rfl,rfl⟩ rfl rfl rfl rfl rfl (by kernel_rfl) Tryz.func7 closed
    (of_decide_eq_true (by kernel_rfl)) (by unfold Func.isWrapper;first|(rw [if_pos (by decide +kernel)];kernel_rfl)|(rw [if_neg (by decide +kernel)];exact ⟨rfl,rfl⟩))
    (fun os started H enc _ F=>lifted os started H enc F)
theorem proved:Rows.AutoRunsUptoSaid:=over
end Go.Proofs.YtiplihojmfbjkaaGreat.autoRuns
namespace Go.Proofs.YtiplihojmfbjkaaGreat
theorem autoRuns_holds:Rows.AutoRunsUptoSaid:=autoRuns.proved
end Go.Proofs.YtiplihojmfbjkaaGreat
