/- Walks: right patterns. -/
import Derived.Test.YtiplihojmfbjkaaGreatVH
import Derived.Test.YtiplihojmfbjkaaGreatEA
import Derived.Test.YtiplihojmfbjkaaGreatWM
import Derived.Test.YtiplihojmfbjkaaGreatG1
import Derived.Test.YtiplihojmfbjkaaGreatG3
import Derived.Test.YtiplihojmfbjkaaGreatGD
import Derived.Test.YtiplihojmfbjkaaGreatQD
import Derived.Test.YtiplihojmfbjkaaGreatMB
set_option maxRecDepth 100000
set_option maxHeartbeats 16000000
namespace Go.Proofs.YtiplihojmfbjkaaGreat
open Go.RowKit
def namesQ (p:Pt):List ByteArray:=sortB (varsP p)
def headQ (q:Qy):Bool:=(if q.sel=3 then decide (1≤q.k∧q.k≤1000) else decide (q.k=0))&&decide (0≤q.mode∧q.mode≤3)&&decide (0≤q.sel∧q.sel≤3)
def tailQ (q:Qy):Int:=if compN (namesQ q.pat) < (namesQ q.pat).length then 3 else if endsP q.pat=false then 5 else if 400 < sizeN q.pat then 6 else if (lenP q.pat).high=none∧q.mode=0∧q.sel=0 then 5 else 0
def checkQ (q:Qy):Int:=if headQ q=false then 1 else if 50 < depthP 50 q.pat then 6 else if rightP q.pat=false then 1 else tailQ q
theorem zoN {o:Option Nat} (h:o=none):hiI o < 0:=by subst h;decide
theorem zou {o:Option Nat} (h:¬ o=none):¬ hiI o < 0:=by
  cases o with
  | none=>exact absurd rfl h
  | some n=>show ¬ (n:Int) < 0;omega
theorem in_v (n a b:Int):CallsV Tryz.prog 111 [vI n,vI a,vI b] (.val (vB (decide (a≤n∧n≤b)))):=by
  by_cases h:a≤n∧n≤b
  · rw [decide_eq_true h];exact inY h
  · rw [decide_eq_false h];exact inO h
theorem zpp (o:Option Nat):(o=none)=(hiI o < 0):=propext ⟨zoN,fun h=>by
  cases o with
  | none=>rfl
  | some n=>exact absurd h (zou (by simp))⟩
def HeadP (q:Qy):Prop:=((q.sel=3∧1≤q.k∧q.k≤1000)∨(¬ q.sel=3∧q.k=0))∧(0≤q.mode∧q.mode≤3)∧0≤q.sel∧q.sel≤3
theorem zd9 (q:Qy):headQ q=true↔HeadP q:=by
  unfold headQ HeadP
  by_cases h:q.sel=3
  · simp only [if_pos h,Bool.and_eq_true,decide_eq_true_eq];omega
  · simp only [if_neg h,Bool.and_eq_true,decide_eq_true_eq];omega
theorem zoh {q:Qy} (h:¬ HeadP q):1=checkQ q:=by
  have:headQ q=false:=by
    cases hh:headQ q with
    | false=>rfl
    | true=>exact absurd ((zd9 q).1 hh) h
  unfold checkQ;rw [if_pos this]
theorem zon {q:Qy} (h:HeadP q) (hd:50 < depthP 50 q.pat):6=checkQ q:=by
  unfold checkQ;rw [if_neg (by rw [(zd9 q).2 h];decide),if_pos hd]
theorem znU {q:Qy} (h:HeadP q) (hd:¬ 50 < depthP 50 q.pat) (hr:rightP q.pat=false):1=checkQ q:=by
  unfold checkQ;rw [if_neg (by rw [(zd9 q).2 h];decide),if_neg hd,if_pos hr]
theorem zjR (q:Qy) (hvb:(varsP q.pat).length≤1000000):CallsV Tryz.prog 63 [.dat (encQ q)] (.val (vI (checkQ q))):=by
  have hD:=zmD q.pat
  have hR:=znh q.pat
  have hV:=zpA zos q.pat hvb
  obtain ⟨L,hL⟩:∃ L,L=sortB (varsP q.pat):=⟨_,rfl⟩
  have hLl:L.length≤1000000:=by rw [hL,zc1];exact hvb
  have htail:tailQ q=if compN L < L.length then 3 else if endsP q.pat=false then 5 else if 400 < sizeN q.pat then 6 else if hiI (lenP q.pat).high < 0∧q.mode=0∧q.sel=0 then 5 else 0:=by rw [hL];unfold tailQ namesQ;simp only [zpp]
  rw [← hL] at hV
  have hlm:(L.map encS).length=L.length:=List.length_map _
  (refine zaa (Ty:=Ty) zad Tryz.func63 rfl rfl rfl fun w0 S0=>?_;refine enA ?_)
  repeat' (first|(refine isRL ?_;first|(refine isCl ?_;first|refine uC (in_v _ _ _) ?_|refine uC (hD) ?_|refine uC (hR) ?_|refine uCO (hV) ?_)|refine uFld ?_)|refine nx ?_|(refine nx2 ?_ ?_<;>intro hb))
  all_goals try exact zab (by rfl) (zaG (zoh (by unfold HeadP;omega)))
  all_goals try exact zab (by rfl) (zaG (zon (by unfold HeadP;omega) (by omega)))
  all_goals try exact zab (by rfl) (zaG (znU (by unfold HeadP;omega) (by omega) (by assumption)))
  all_goals
    have hr:rightP q.pat=true:=by assumption
    have hdef:checkQ q=tailQ q:=by
      unfold checkQ
      rw [if_neg (by rw [(zd9 q).2 (by unfold HeadP;omega)];decide),if_neg (by omega),if_neg (by rw [hr];decide)]
    rw [htail] at hdef
    have hE:=zpI q.pat hr
    have hS:=ziK q.pat hr
    have hN:=zg3 q.pat hr
    by_cases hl0:L=[]
    · clear hL
      subst hl0
      rw [if_neg (by decide)] at hdef
      repeat' (first|(refine isRL ?_;first|(refine isCl ?_;first|refine uC (znC) ?_|refine uC (zkh) ?_|refine uC (hE) ?_|refine uC (hS) ?_|refine uC (hN) ?_)|refine uFld ?_)|refine nx ?_|(refine nx2 ?_ ?_<;>intro hb))
      all_goals exact zab (by rfl) (zaG (by rw [hdef];(repeat' split)<;>first|rfl|omega|simp_all))
    · have hCl:=zoB L hLl hl0
      refine uCc L hCl zoO ?_
      repeat' (first|(refine isRL ?_;first|(refine isCl ?_;first|refine uC (hE) ?_|refine uC (hS) ?_|refine uC (hN) ?_)|refine uFld ?_)|refine nx ?_|(refine nx2 ?_ ?_<;>intro hb))
      all_goals exact zab (by rfl) (zaG (by rw [hdef];(repeat' split)<;>first|rfl|omega|simp_all))
end Go.Proofs.YtiplihojmfbjkaaGreat
namespace Go.Proofs.YtiplihojmfbjkaaGreat
open Go.RowKit
theorem zmB {cs:List D} {o:Nat} (p:Pt) (ho:o≠0) (hl:cs.length=o+20):splice cs o (encP p)=cs.take o++encP p:=by
  have hlen:=zan p
  have:splice cs o (encP p)=cs.take o++encP p++cs.drop (o+(encP p).length):=by
    rw [zaM]
    unfold splice
    split
    · rename_i h;injection h with _ h;cases h
    · rw [if_neg (fun h=>ho h.1)]
  rw [this,hlen,← hl,List.drop_length,List.append_nil]
section
variable {w0:W0} {S0:Nat→Nat→Prop} {nt:Nat} {fr:Fr} {σ:Obs} {o:Oper} {ops:Array Oper} {rest:List Oper} {Q:Fr→Obs→Prop} {d:Nat} {t:TypeId} {i:TyI} {ds:List D} {ps:Array (Nat × Operand)}
theorem uBdQ (q:Qy) (h:RL (cx nt w0 S0) ops rest ((d,.dat (encQ q)) :: fr) σ Q) (ho:o.op=.build t ps:=by rfl) (hw:wantA ops o fr=some true:=by rfl) (hdst:o.dst=some d:=by rfl) (hd:Nat.blt d nt=true:=by rfl) (hi:Ty t=some i:=by rfl) (ht:i.tag=1:=by rfl)
    (hl:layF i.places fr ps.toList (i.zero.map zc)=some ds:=by first|exact zaE _ _ _|exact (zaf (by rfl) (by rfl) lenA leA (zaE _ _ _))|exact (zaf (by rfl) (by rfl) lenA leA (zaf (by rfl) (by rfl) lenA leA (zaE _ _ _)))|exact (zaf (by rfl) (by rfl) lenA leA (zaf (by rfl) (by rfl) lenA leA (zaf (by rfl) (by rfl) lenA leA (zaE _ _ _))))|exact (zaf (by rfl) (by rfl) lenA leA (zaf (by rfl) (by rfl) lenA leA (zaf (by rfl) (by rfl) lenA leA (zaf (by rfl) (by rfl) lenA leA (zaE _ _ _)))))|exact (zaf (by rfl) (by rfl) lenA leA (zaf (by rfl) (by rfl) lenA leA (zaf (by rfl) (by rfl) lenA leA (zaf (by rfl) (by rfl) lenA leA (zaf (by rfl) (by rfl) lenA leA (zaE _ _ _))))))|exact (zaf (by rfl) (by rfl) lenA leA (zaf (by rfl) (by rfl) lenA leA (zaf (by rfl) (by rfl) lenA leA (zaf (by rfl) (by rfl) lenA leA (zaf (by rfl) (by rfl) lenA leA (zaf (by rfl) (by rfl) lenA leA (zaE _ _ _)))))))|exact (zaf (by rfl) (by rfl) lenA leA (zaf (by rfl) (by rfl) lenA leA (zaf (by rfl) (by rfl) lenA leA (zaf (by rfl) (by rfl) lenA leA (zaf (by rfl) (by rfl) lenA leA (zaf (by rfl) (by rfl) lenA leA (zaf (by rfl) (by rfl) lenA leA (zaE _ _ _))))))))) (hs:ds=encQ q:=by refine (zmB _ ?_ ?_).trans ?_<;>first|decide|rfl):RL (cx nt w0 S0) ops (o :: rest) fr σ Q :=
  uBd (cs:=encQ q) h ho hw hdst hd hi ht hl hs
end
theorem zfO {q:Qy} (h:checkQ q=0):rightP q.pat=true∧sizeN q.pat≤400:=by
  unfold checkQ at h
  split at h
  · cases h
  split at h
  · cases h
  split at h
  · cases h
  rename_i h1 h2 h3
  unfold tailQ at h
  split at h
  · cases h
  split at h
  · cases h
  split at h
  · cases h
  rename_i h4
  exact ⟨by simpa using h3,by omega⟩
def ptA:Pt:=⟨2,⟨#[]⟩,4,zE,zE,0,0,[]⟩
def litA:List D:=[.v (.int .i64 2),.v (.string ⟨#[]⟩),.v (.int .i64 4),.v (.int .i64 0),.v (.string ⟨#[]⟩),.v (.int .i64 0),.v (.int .i64 0),.v (.float .f64 0),.v (.string ⟨#[]⟩),.sl [],
      .v (.int .i64 0),.v (.string ⟨#[]⟩),.v (.int .i64 0),.v (.int .i64 0),.v (.float .f64 0),.v (.string ⟨#[]⟩),.sl [],.v (.int .i64 0),.v (.int .i64 0),.sl []]
theorem zjW:encP ptA=litA:=by rw [zaM];rfl
theorem zkr:buildM (quantP ptA (-1))=⟨[ptA],[⟨0,2, -1⟩,⟨2,2,0⟩,⟨2,1, -1⟩],3⟩:=by
  unfold buildM
  rw [zct (k:=ptA) rfl rfl (by decide),zcx (.inr rfl)];rfl
theorem zlT:CallsV Tryz.prog 28 [] (.val (vB true)):=by
  have hB:=zjD (quantP ptA (-1)) (zcW (.inr rfl) (by rw [zb2,if_pos (.inr rfl)];rfl)) (by rw [zcU,zbl];decide)
  rw [zkr,zjp,zjW] at hB
  simp only [encA,List.map_cons,List.map_nil,zjW,encMv,litA] at hB
  (refine zaa (Ty:=Ty) zad Tryz.func28 rfl rfl rfl fun w0 S0=>?_;simp only [argsF,List.zipIdx_nil,List.map_nil])
  repeat' (first|refine uM (hB) ?_|refine nx ?_|(refine nx2 ?_ ?_<;>intro hb))
  exact zab (by rfl) rfl
end Go.Proofs.YtiplihojmfbjkaaGreat
