/- Walks: slices.Repeat of one pattern. -/
import Derived.Test.YtiplihojmfbjkaaGreatWI
import Derived.Test.YtiplihojmfbjkaaGreatWM
import Derived.Test.YtiplihojmfbjkaaGreatQB
import Derived.Test.YtiplihojmfbjkaaGreatMB
import Derived.Test.YtiplihojmfbjkaaGreatQD
set_option maxRecDepth 100000
set_option maxHeartbeats 4000000
namespace Go.Proofs.YtiplihojmfbjkaaGreat
open Go.RowKit
set_option maxHeartbeats 16000000
abbrev vU (n:Int):VV:=.one (.d (.v (.int .u64 n)))
theorem zpV {a b c d:Int} (h1:a=c) (h2:b=d):VV.tup [vU a,vU b]=VV.tup [vU c,vU d]:=by rw [h1,h2]
theorem zoA (c:Nat) (hc:c≤20):CallsV Tryz.prog 173 [vU 1,vU c] (.val (.tup [vU 0,vU c])):=by
  (refine zaa (Ty:=Ty) zad Tryz.func173 rfl rfl rfl fun w0 S0=>?_;refine enA ?_)
  repeat refine nx ?_
  refine zab (by rfl) (zpV ?_ ?_)<;>clear w0 S0<;>revert c<;>decide +kernel
theorem zp2 (c:Nat) (hc:c≤20):CallsV Tryz.prog 125 [vU 1,vU c] (.val (.tup [vU 0,vU c])):=by
  have h:=zoA c hc
  (refine zaa (Ty:=Ty) zad Tryz.func125 rfl rfl rfl fun w0 S0=>?_;refine enA ?_)
  repeat (first|refine uC (h) ?_|refine nx ?_)
  exact zab (by rfl) rfl
theorem zmS {z:Int} (h1:0≤z) (h2:z≤18446744073709551615):IntKind.u64.wrap z=z:=by
  rw [IntKind.wrap_u64];omega
abbrev zPat':List D:=[.v (.int .i64 0),.v (.string ⟨#[]⟩),.v (.int .i64 0),.v (.int .i64 0),.v (.string ⟨#[]⟩),.v (.int .i64 0),.v (.int .i64 0),.v (.float .f64 0),.v (.string ⟨#[]⟩),.sl [],
      .v (.int .i64 0),.v (.string ⟨#[]⟩),.v (.int .i64 0),.v (.int .i64 0),.v (.float .f64 0),.v (.string ⟨#[]⟩),.sl [],.v (.int .i64 0),.v (.int .i64 0),.sl []]
theorem zns {α:Type} (a z:α) {c n:Nat} (hn:n < c):(List.replicate n a++List.replicate (c - n) z).take n++(List.replicate n a).take (min n (c - n))++(List.replicate n a++List.replicate (c - n) z).drop (n+min n (c - n))=List.replicate (n+min n (c - n)) a++List.replicate (c - (n+min n (c - n))) z:=by
  rw [List.take_left' (by simp),List.take_replicate,List.drop_append,List.drop_of_length_le (by simp),List.nil_append,List.length_replicate,List.drop_replicate,List.replicate_append_replicate]
  congr 2<;>omega
theorem zk3 {α:Type} (a z:α) (c:Nat):(List.replicate c z).take 0++[a].take (min 1 c)++(List.replicate c z).drop (0+min 1 c)=List.replicate (min 1 c) a++List.replicate (c - min 1 c) z:=by
  cases c with
  | zero=>rfl
  | succ c=>rw [Nat.min_eq_left (by omega)];simp
theorem zmH (p:Pt) (c:Nat) (hc:c≤20):CallsV Tryz.prog 73 [vL ([p].map encP),vI c] (.own 34 20 ((List.replicate c p).map encP)):=by
  have h:=zp2 c hc
  (refine zaa (Ty:=Ty) zad Tryz.func73 rfl rfl rfl fun w0 S0=>?_;refine enA ?_)
  have h':CallsV Tryz.prog 125 [vU (IntKind.u64.wrap (([encP p]:List (List D)).length:Int)),vU (IntKind.u64.wrap c)] (.val (.tup [vU 0,vU c])):=by
    rw [zmS (z:=c) (by omega) (by omega)];exact h
  repeat (first|refine uC (h') ?_|refine mC (h') ?_|refine nx ?_)
  refine uMk c ?_ (hz:=zcI (by omega) (by omega))
  repeat refine nx ?_
  refine uCp (List.replicate (min 1 c) (encP p)++List.replicate (c - min 1 c) zPat') (min 1 c) ?_ ?_ ?_ ?_
  rotate_left
  · exact zk3 (encP p) zPat' c
  · simp
  · simp
  repeat refine nx ?_
  refine zay (α:=Nat) (fun n=>[(7,.one (.win 30 0 c c 20)),(8,vI n)]) (fun n=>[(30,.arr 34 20 (List.replicate n (encP p)++List.replicate (c - n) zPat'))]) (fun n=>n≤c∧(c=0∨1≤n)) (fun n=>c - n) (min 1 c) ⟨by omega,by omega⟩ subA subA ?_
  intro n ⟨hn,h1n⟩
  by_cases hlt:n < c
  · have hc0:¬ c=0:=by omega
    have hcn:¬ c=n:=by omega
    repeat (first|refine zeo ?_|refine zey ?_|(refine zge ?_;(first|change W _ _ _ _ _|change EndQ _ _ _ _ _ _|change Exists _|change EndG _ _ _ _ _ _ _ _ _ _|change EndM _ _ _ _ _ _ _|skip))|(refine isRL ?_;first|refine uMv ?_|refine uAs ?_|refine uO ?_|(refine isBin ?_;first|refine uIb ?_|refine uBb true ?_|refine uBb false ?_|refine uCat ?_|refine uP ?_|refine uEq true ?_|refine uEq false ?_)|(refine isLd ?_;first|refine uLp ?_|refine uLb ?_|refine uL1 ?_|refine uL2 ?_|refine uP ?_)|(refine isCl ?_;first|refine uP ?_|refine uAk ?_|refine uA ?_|refine uA0 ?_|refine uWl ?_)|(refine isFa ?_;first|refine uP ?_)|(refine isBd ?_;first|refine uBd ?_|refine uP ?_)|(refine isSl ?_;first|refine uHm ?_|refine uHd ?_|refine uP ?_|refine uH ?_)|(refine isSt ?_;first|refine uSw ?_|refine uS ?_|refine uSc ?_)|refine uX ?_|refine uBu true ?_|refine uBu false ?_|refine uBs ?_|refine uSx ?_|refine uP ?_|refine uBx ?_|refine uN ?_|refine uON ?_)|refine zgT ?_|refine zbD true (by rfl) (fun _=>?_) (fun h=>by cases h)|refine zbD false (by rfl) (fun h=>by cases h) (fun _=>?_)|(refine zh0 ?_;(first|change W _ _ _ _ _|change EndQ _ _ _ _ _ _|change Exists _|change EndG _ _ _ _ _ _ _ _ _ _|change EndM _ _ _ _ _ _ _|skip))|(refine zh2 ?_;(first|change W _ _ _ _ _|change EndQ _ _ _ _ _ _|change Exists _|change EndG _ _ _ _ _ _ _ _ _ _|change EndM _ _ _ _ _ _ _|skip))|(refine zkn ?_;(first|change W _ _ _ _ _|change EndQ _ _ _ _ _ _|change Exists _|change EndG _ _ _ _ _ _ _ _ _ _|change EndM _ _ _ _ _ _ _|skip))|(refine mN ?_;(first|change W _ _ _ _ _|change EndQ _ _ _ _ _ _|change Exists _|change EndG _ _ _ _ _ _ _ _ _ _|change EndM _ _ _ _ _ _ _|skip))|(refine isD ?_;first|refine mMv ?_|refine mAs ?_|refine mO ?_|(refine imBin ?_;first|refine mIb ?_|refine mBb true ?_|refine mBb false ?_|refine mCat ?_|refine mP ?_|refine mEq true ?_|refine mEq false ?_)|(refine imLd ?_;first|refine mLp ?_|refine mLb ?_|refine mL1 ?_|refine mL2 ?_|refine mP ?_)|(refine imCl ?_;first|refine mP ?_|refine mA ?_|refine mA0 ?_)|(refine imFa ?_;first|refine mP ?_)|(refine imBd ?_;first|refine mBd ?_|refine mP ?_)|(refine imSl ?_;first|refine mHm ?_|refine mHd ?_|refine mP ?_|refine mH ?_)|refine mX ?_|refine mBu true ?_|refine mBu false ?_|refine mBs ?_|refine mSx ?_|refine mP ?_|refine mAl ?_))
    refine uAnyT [(30,.arr 34 20 (List.replicate n (encP p)++List.replicate (c - n) zPat'))] [] (fun q hq=>by obtain rfl:=List.mem_singleton.1 hq;rfl) subA ?_
    repeat (first|(refine isD ?_;first|refine mMv ?_|refine mAs ?_|refine mO ?_|(refine imBin ?_;first|refine mIb ?_|refine mBb true ?_|refine mBb false ?_|refine mCat ?_|refine mP ?_|refine mEq true ?_|refine mEq false ?_)|(refine imLd ?_;first|refine mLp ?_|refine mLb ?_|refine mL1 ?_|refine mL2 ?_|refine mP ?_)|(refine imCl ?_;first|refine mP ?_|refine mA ?_|refine mA0 ?_)|(refine imFa ?_;first|refine mP ?_)|(refine imBd ?_;first|refine mBd ?_|refine mP ?_)|(refine imSl ?_;first|refine mHm ?_|refine mHd ?_|refine mP ?_|refine mH ?_)|refine mX ?_|refine mBu true ?_|refine mBu false ?_|refine mBs ?_|refine mSx ?_|refine mP ?_|refine mAl ?_)|(refine mN ?_;(first|change W _ _ _ _ _|change EndQ _ _ _ _ _ _|change Exists _|change EndG _ _ _ _ _ _ _ _ _ _|change EndM _ _ _ _ _ _ _|skip)))
    refine mWs n c (.one (.win 30 (0+n) (c - n) (c - n) 20)) ?_ (if_neg hcn) ⟨by omega,Nat.le_refl _,Nat.le_refl _⟩
    repeat (first|(refine isD ?_;first|refine mMv ?_|refine mAs ?_|refine mO ?_|(refine imBin ?_;first|refine mIb ?_|refine mBb true ?_|refine mBb false ?_|refine mCat ?_|refine mP ?_|refine mEq true ?_|refine mEq false ?_)|(refine imLd ?_;first|refine mLp ?_|refine mLb ?_|refine mL1 ?_|refine mL2 ?_|refine mP ?_)|(refine imCl ?_;first|refine mP ?_|refine mA ?_|refine mA0 ?_)|(refine imFa ?_;first|refine mP ?_)|(refine imBd ?_;first|refine mBd ?_|refine mP ?_)|(refine imSl ?_;first|refine mHm ?_|refine mHd ?_|refine mP ?_|refine mH ?_)|refine mX ?_|refine mBu true ?_|refine mBu false ?_|refine mBs ?_|refine mSx ?_|refine mP ?_|refine mAl ?_)|(refine mN ?_;(first|change W _ _ _ _ _|change EndQ _ _ _ _ _ _|change Exists _|change EndG _ _ _ _ _ _ _ _ _ _|change EndM _ _ _ _ _ _ _|skip)))
    refine mWs 0 n (.one (.win 30 (0+0) (n - 0) (c - 0) 20)) ?_ (if_neg hc0) ⟨by omega,by omega,Nat.le_refl _⟩
    have hwin:winR (List.replicate n (encP p)++List.replicate (c - n) zPat') 0 n=List.replicate n (encP p):=by unfold winR;rw [List.drop_zero,List.take_left' (by simp)]
    refine mCp (news:=List.replicate n (encP p)) (List.replicate (n+min n (c - n)) (encP p)++List.replicate (c - (n+min n (c - n))) zPat') (min n (c - n)) ?_ ?_ ?_ ?_ ?_ ?_
    rotate_left
    · refine Eq.trans (b:=some (winR (List.replicate n (encP p)++List.replicate (c - n) zPat') (0+0) (n - 0))) ?_ (by rw [Nat.zero_add,Nat.sub_zero,hwin])
      simp [srcV,look]
    · simp [sized,zan]
    · rw [Nat.zero_add];exact zns _ _ hlt
    · simp
    · simp
    repeat (first|(refine isD ?_;first|refine mMv ?_|refine mAs ?_|refine mO ?_|(refine imBin ?_;first|refine mIb ?_|refine mBb true ?_|refine mBb false ?_|refine mCat ?_|refine mP ?_|refine mEq true ?_|refine mEq false ?_)|(refine imLd ?_;first|refine mLp ?_|refine mLb ?_|refine mL1 ?_|refine mL2 ?_|refine mP ?_)|(refine imCl ?_;first|refine mP ?_|refine mA ?_|refine mA0 ?_)|(refine imFa ?_;first|refine mP ?_)|(refine imBd ?_;first|refine mBd ?_|refine mP ?_)|(refine imSl ?_;first|refine mHm ?_|refine mHd ?_|refine mP ?_|refine mH ?_)|refine mX ?_|refine mBu true ?_|refine mBu false ?_|refine mBs ?_|refine mSx ?_|refine mP ?_|refine mAl ?_)|(refine mN ?_;(first|change W _ _ _ _ _|change EndQ _ _ _ _ _ _|change Exists _|change EndG _ _ _ _ _ _ _ _ _ _|change EndM _ _ _ _ _ _ _|skip)))
    repeat refine nx ?_
    exact ⟨n+min n (c - n),by omega,⟨by omega,by omega⟩,subA,subA⟩
  · have hnc:n=c:=by omega
    subst hnc
    have hrep:List.replicate n (encP p)++List.replicate (n - n) zPat'=(List.replicate n p).map encP:=by simp
    have hl3:(List.replicate n p).length=n:=List.length_replicate
    rw [hrep]
    refine uArrTok (n:=n) (rows:=(List.replicate n p).map encP) 7 30 ?_ (by simp) (by rw [List.length_map,List.length_replicate];omega)
    repeat refine nx ?_
    exact zbZ (k:=30) (by rfl) (by rfl) rfl
end Go.Proofs.YtiplihojmfbjkaaGreat
namespace Go.Proofs.YtiplihojmfbjkaaGreat
open Go.RowKit
theorem zeP (k:Int) (l:List Pt):(l.flatMap (openP k)).length≤(l.map nodesP).sum :=
  Nat.le_trans (zcq nodesP _ fun x _=>zd3 x) (zfz k l)
theorem zlS (p:Pt) (hp:nodesP p≤20000):∀ n:Nat,n < 20→CallsV Tryz.prog 75 [.dat (encP p),vI ((n+1:Nat):Int)] (.val (.dat (encP (tailP p n))))
  | 0,_=>by
    have hq:=zgQ p 1
    (refine zaa (Ty:=Ty) zad Tryz.func75 rfl rfl rfl fun w0 S0=>?_;refine enA ?_)
    repeat (first|refine uC (hq) ?_|refine mC (hq) ?_|refine nx ?_)
    exact zcg rfl rfl rfl rfl rfl (zan _) (by rw [tailP])
  | n+1,hn=>by
    have ih:=zlS p hp n (by omega)
    have hnt:=zep p n
    have hb:(([p,tailP p n]:List Pt).flatMap (openP 3)).length≤1000000:=by
      refine Nat.le_trans (zeP 3 _) ?_
      have:(n+1) * (nodesP p+2)≤20 * 20002:=Nat.mul_le_mul (by omega) (by omega)
      simp only [List.map_cons,List.map_nil,List.sum_cons,List.sum_nil]
      omega
    have hj:=zib 3 [p,tailP p n] hb
    have hq:=zgQ (joinP 3 [p,tailP p n]) 1
    have ih':CallsV Tryz.prog 75 [.dat (encP p),vI (((n+1+1:Nat):Int) - 1)] (.val (.dat (encP (tailP p n)))):=by
      rw [show ((n+1+1:Nat):Int) - 1=((n+1:Nat):Int) by omega];exact ih
    (refine zaa (Ty:=Ty) zad Tryz.func75 rfl rfl rfl fun w0 S0=>?_;refine enA ?_)
    have hn1:¬ ((n+1+1:Nat):Int)=1:=by omega
    repeat (first|(refine isCl ?_;first|refine uC (ih') ?_|refine uC (hj) ?_|refine uC (hq) ?_)|(refine imCl ?_;first|refine mC (ih') ?_|refine mC (hj) ?_|refine mC (hq) ?_)|refine nx ?_)
    exact zcg rfl rfl rfl rfl rfl (zan _) (by rw [tailP])
theorem zcw {α β:Type} {f:α→β} {l:List α} {q:α} {i:Nat} (hq:l[i]?=some q):(l.take (i+1)).map f=(l.take i).map f++[f q]:=by
  rw [List.take_add_one,hq,Option.toList_some,List.map_append,List.map_singleton]
theorem zkK {p:Pt} (h:rightP p=true) (hk:p.kind=3∨p.kind=4):((p.kids.map normal).map nodesP).sum≤2 * sizeN p:=by
  rw [List.map_map]
  refine Nat.le_trans (zgq _ (fun k=>2 * sizeN k) p.kids fun k hk=>by have:=zdm k (zaF h k hk);simp only [Function.comp];omega) ?_
  rw [zck (by omega)]
  have h7:∀ l:List Pt,(l.map fun k=>2 * sizeN k).sum=2 * (l.map sizeN).sum:=fun l=>by
    induction l with
    | nil=>rfl
    | cons x l ih=>simp only [List.map_cons,List.sum_cons,ih];omega
  rw [h7];omega
theorem zle {p b:Pt} (h1:0≤p.min) (h2:p.min≤20) (h3:p.max = -1∨(1≤p.max∧p.min≤p.max∧p.max≤20)):((List.replicate p.min.toNat b++moreP p b).map nodesP).sum≤21 * (nodesP b+2):=by
  rw [List.map_append,List.sum_append,List.map_replicate,zeD]
  refine Nat.le_trans (zgl (p:=p) b h1 h3) (Nat.mul_le_mul_right _ ?_)
  unfold timesP;split<;>omega
theorem zmY:∀ p:Pt,rightP p=true→sizeN p≤5000→CallsV Tryz.prog 31 [.dat (encP p)] (.val (.dat (encP (normal p)))):=Pt.ind fun p ih h hs=>by
  have hr:=zaF h
  have hkl:=zjB h
  have ih':∀ k∈p.kids,CallsV Tryz.prog 31 [.dat (encP k)] (.val (.dat (encP (normal k)))):=fun k hk=>ih k hk (hr k hk) (by have:=zei h hk;omega)
  have hlm:(p.kids.map encP).length=p.kids.length:=List.length_map _
  (refine zaa (Ty:=Ty) zad Tryz.func31 rfl rfl rfl fun w0 S0=>?_;refine enA ?_)
  repeat refine nx ?_
  refine uNil 3 100 34 20 ?_
  refine zay (α:=Nat) (fun i=>[(1,.one (.po 1 0)),(2,.one (.po 2 0)),(3,.one (.own 100 (((p.kids.take i).map normal).map encP))),(8,vL (p.kids.map encP)),(9,vI ((p.kids.map encP).length:Int)),(10,vI i)]) (fun _=>[(1,.box 34 (encP p)),(2,.box 34 zPat),(100,.tok 34 20)]) (fun i=>i≤p.kids.length) (fun i=>p.kids.length - i) 0 (Nat.zero_le _) subA subA ?_
  intro i hi
  by_cases hlt:i < p.kids.length
  · obtain ⟨q,hq⟩:∃ q,p.kids[i]?=some q:=⟨_,List.getElem?_eq_getElem hlt⟩
    have hQ:=ih' q (List.mem_of_getElem? hq)
    have hnx':((p.kids.take i).map normal).map encP++[encP (normal q)]=((p.kids.take (i+1)).map normal).map encP:=by rw [zcw hq,List.map_append];rfl
    have hl2:(((p.kids.take i).map normal).map encP).length≤5000:=by simp;omega
    repeat (first|refine uC (hQ) ?_|refine mC (hQ) ?_|refine nx ?_)
    exact ⟨i+1,by omega,hlt,subA,subA⟩
  · have hil:i=p.kids.length:=by omega
    subst hil
    rw [List.take_length]
    by_cases k34:p.kind=3∨p.kind=4
    · have hb:=Nat.le_trans (zeP p.kind (p.kids.map normal)) (zkK h k34)
      have hj:=zib p.kind (p.kids.map normal) (by omega)
      rcases k34 with k3|k4
      all_goals
        repeat (first|refine uC (hj) ?_|refine mC (hj) ?_|refine nx ?_)
        exact zcg rfl rfl rfl rfl rfl (zan _) (by rw [za1 (by omega)])
    · by_cases k5:p.kind=5
      · obtain ⟨⟨k,hk,hkr⟩,h1,h2,h3⟩:=zaI h k5
        have hnk:=zdm k hkr
        have hsk:=zei h (k:=k) (by rw [hk];exact List.mem_cons_self)
        have hb:=Nat.le_trans (zeP 3 _) (zle (p:=p) (b:=normal k) h1 h2 h3)
        have hj:=zib 3 (List.replicate p.min.toNat (normal k)++moreP p (normal k)) (by omega)
        have hR:=zmH (normal k) p.min.toNat (by omega)
        rw [show ((p.min.toNat:Nat):Int)=p.min by omega] at hR
        rw [hk]
        have hmore:moreP p (normal k)=if p.max < 0 then [quantP (normal k) (-1)] else if p.min < p.max then [tailP (normal k) (p.max - p.min - 1).toNat] else []:=rfl
        have hfin:normal p=joinP 3 (List.replicate p.min.toNat (normal k)++moreP p (normal k)):=zbk k5 hk
        have hl3:(List.replicate p.min.toNat (normal k)).length≤20:=by rw [List.length_replicate];omega
        by_cases hm:p.max < 0
        · rw [if_pos hm] at hmore
          rw [hmore] at hj
          have hq:=zgQ (normal k) (-1)
          have hnx':(List.replicate p.min.toNat (normal k)).map encP++[encP (quantP (normal k) (-1))]=(List.replicate p.min.toNat (normal k)++[quantP (normal k) (-1)]).map encP:=by rw [List.map_append];rfl
          repeat (first|(refine isCl ?_;first|refine uCO (hR) ?_|refine uC (hq) ?_|refine uC (hj) ?_)|(refine imCl ?_;first|refine mCO (hR) ?_|refine mC (hq) ?_|refine mC (hj) ?_)|refine nx ?_)
          exact zcg rfl rfl rfl rfl rfl (zan _) (by rw [hfin,hmore])
        · rw [if_neg hm] at hmore
          by_cases hgt:p.min < p.max
          · rw [if_pos hgt] at hmore
            rw [hmore] at hj
            have hT:=zlS (normal k) (by omega) (p.max - p.min - 1).toNat (by omega)
            rw [show (((p.max - p.min - 1).toNat+1:Nat):Int)=p.max - p.min by omega] at hT
            have hnx':(List.replicate p.min.toNat (normal k)).map encP++[encP (tailP (normal k) (p.max - p.min - 1).toNat)]=(List.replicate p.min.toNat (normal k)++[tailP (normal k) (p.max - p.min - 1).toNat]).map encP:=by rw [List.map_append];rfl
            repeat (first|refine zeo ?_|refine zey ?_|(refine zge ?_;(first|change W _ _ _ _ _|change EndQ _ _ _ _ _ _|change Exists _|change EndG _ _ _ _ _ _ _ _ _ _|change EndM _ _ _ _ _ _ _|skip))|(refine isRL ?_;first|refine uMv ?_|refine uAs ?_|refine uO ?_|(refine isBin ?_;first|refine uIb ?_|refine uBb true ?_|refine uBb false ?_|refine uCat ?_|refine uP ?_|refine uEq true ?_|refine uEq false ?_)|(refine isLd ?_;first|refine uLp ?_|refine uLb ?_|refine uL1 ?_|refine uL2 ?_|refine uP ?_)|(refine isCl ?_;first|refine uCO (hR) ?_|refine uP ?_|refine uAk ?_|refine uA ?_|refine uA0 ?_|refine uWl ?_)|(refine isFa ?_;first|refine uP ?_)|(refine isBd ?_;first|refine uBd ?_|refine uP ?_)|(refine isSl ?_;first|refine uHm ?_|refine uHd ?_|refine uP ?_|refine uH ?_)|(refine isSt ?_;first|refine uSw ?_|refine uS ?_|refine uSc ?_)|refine uX ?_|refine uBu true ?_|refine uBu false ?_|refine uBs ?_|refine uSx ?_|refine uP ?_|refine uBx ?_|refine uN ?_|refine uON ?_)|refine zgT ?_|refine zbD true (by rfl) (fun _=>?_) (fun h=>by cases h)|refine zbD false (by rfl) (fun h=>by cases h) (fun _=>?_)|(refine zh0 ?_;(first|change W _ _ _ _ _|change EndQ _ _ _ _ _ _|change Exists _|change EndG _ _ _ _ _ _ _ _ _ _|change EndM _ _ _ _ _ _ _|skip))|(refine zh2 ?_;(first|change W _ _ _ _ _|change EndQ _ _ _ _ _ _|change Exists _|change EndG _ _ _ _ _ _ _ _ _ _|change EndM _ _ _ _ _ _ _|skip))|(refine zkn ?_;(first|change W _ _ _ _ _|change EndQ _ _ _ _ _ _|change Exists _|change EndG _ _ _ _ _ _ _ _ _ _|change EndM _ _ _ _ _ _ _|skip))|(refine mN ?_;(first|change W _ _ _ _ _|change EndQ _ _ _ _ _ _|change Exists _|change EndG _ _ _ _ _ _ _ _ _ _|change EndM _ _ _ _ _ _ _|skip))|(refine isD ?_;first|refine mMv ?_|refine mAs ?_|refine mO ?_|(refine imBin ?_;first|refine mIb ?_|refine mBb true ?_|refine mBb false ?_|refine mCat ?_|refine mP ?_|refine mEq true ?_|refine mEq false ?_)|(refine imLd ?_;first|refine mLp ?_|refine mLb ?_|refine mL1 ?_|refine mL2 ?_|refine mP ?_)|(refine imCl ?_;first|refine mCO (hR) ?_|refine mP ?_|refine mA ?_|refine mA0 ?_)|(refine imFa ?_;first|refine mP ?_)|(refine imBd ?_;first|refine mBd ?_|refine mP ?_)|(refine imSl ?_;first|refine mHm ?_|refine mHd ?_|refine mP ?_|refine mH ?_)|refine mX ?_|refine mBu true ?_|refine mBu false ?_|refine mBs ?_|refine mSx ?_|refine mP ?_|refine mAl ?_))
            refine uAnyT [(34,.tok 34 20)] [(1,.box 34 (encP p)),(2,.box 34 zPat),(100,.tok 34 20)] (fun q hq=>by obtain rfl:=List.mem_singleton.1 hq;rfl) subA ?_
            repeat (first|(refine isD ?_;first|refine mMv ?_|refine mAs ?_|refine mO ?_|(refine imBin ?_;first|refine mIb ?_|refine mBb true ?_|refine mBb false ?_|refine mCat ?_|refine mP ?_|refine mEq true ?_|refine mEq false ?_)|(refine imLd ?_;first|refine mLp ?_|refine mLb ?_|refine mL1 ?_|refine mL2 ?_|refine mP ?_)|(refine imCl ?_;first|refine mC (hT) ?_|refine mP ?_|refine mA ?_|refine mA0 ?_)|(refine imFa ?_;first|refine mP ?_)|(refine imBd ?_;first|refine mBd ?_|refine mP ?_)|(refine imSl ?_;first|refine mHm ?_|refine mHd ?_|refine mP ?_|refine mH ?_)|refine mX ?_|refine mBu true ?_|refine mBu false ?_|refine mBs ?_|refine mSx ?_|refine mP ?_|refine mAl ?_)|(refine mN ?_;(first|change W _ _ _ _ _|change EndQ _ _ _ _ _ _|change Exists _|change EndG _ _ _ _ _ _ _ _ _ _|change EndM _ _ _ _ _ _ _|skip)))
            rw [hnx']
            repeat (first|refine uC (hj) ?_|refine mC (hj) ?_|refine nx ?_)
            exact zcg rfl rfl rfl rfl rfl (zan _) (by rw [hfin,hmore])
          · rw [if_neg hgt] at hmore
            rw [hmore,List.append_nil] at hj
            repeat (first|(refine isCl ?_;first|refine uCO (hR) ?_|refine uC (hj) ?_)|(refine imCl ?_;first|refine mCO (hR) ?_|refine mC (hj) ?_)|refine nx ?_)
            exact zcg rfl rfl rfl rfl rfl (zan _) (by rw [hfin,hmore,List.append_nil])
      · repeat refine nx ?_
        exact zcg rfl rfl rfl rfl rfl (zan _) (by rw [zdD,if_neg k34,if_neg k5])
end Go.Proofs.YtiplihojmfbjkaaGreat
namespace Go.Proofs.YtiplihojmfbjkaaGreat
open Go.RowKit
theorem zjp (b:Pt) (m:Int):encP (quantP b m)=[.v (.int .i64 5),.v (.string ⟨#[]⟩),.v (.int .i64 0),.v (.int .i64 0),.v (.string ⟨#[]⟩),.v (.int .i64 0),.v (.int .i64 0),.v (.float .f64 0),.v (.string ⟨#[]⟩),.sl [],
      .v (.int .i64 0),.v (.string ⟨#[]⟩),.v (.int .i64 0),.v (.int .i64 0),.v (.float .f64 0),.v (.string ⟨#[]⟩),.sl [],.v (.int .i64 0),.v (.int .i64 m),.sl [encP b]]:=by rw [zaM];rfl
end Go.Proofs.YtiplihojmfbjkaaGreat
namespace Go.Proofs.YtiplihojmfbjkaaGreat
open Go.RowKit
end Go.Proofs.YtiplihojmfbjkaaGreat
