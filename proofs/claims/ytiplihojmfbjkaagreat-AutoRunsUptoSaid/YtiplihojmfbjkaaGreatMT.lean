/- Walks: tests of two values;a map of functions. -/
import Derived.Test.YtiplihojmfbjkaaGreatEB
import Derived.Test.YtiplihojmfbjkaaGreatA1
import Derived.MapKept
import Derived.WalkKit
import Derived.Test.YtiplihojmfbjkaaGreatWM
import Derived.Test.YtiplihojmfbjkaaGreatMC
import Derived.Test.YtiplihojmfbjkaaGreatVC
set_option maxRecDepth 100000
namespace Go.Proofs.YtiplihojmfbjkaaGreat
open Go.RowKit
set_option maxHeartbeats 16000000
theorem zdk {P:Program} {w:World} {es:Array MapEntry} {clock:Nat} (mty kt et:TypeId) (s:ByteArray) (val:Value) (hm:P.underlying mty=some (.map kt et)) (hk:P.underlying kt=some .string) (hf:Instr.findNow .string (.string s) es.toList 0=some none) :
    (Instr.mapUpdate mty (.map (some w.heap.size)) (.string s) val).run P (w.alloc (.map es clock))=.ok () (w.alloc (.map (es.push { key:=.string s,val:=val,born:=clock }) (clock+1))):=by
  have hb:(w.alloc (.map es clock)).heap[w.heap.size]?=some (.map es clock):=(MapKept.heap_alloc w _).1
  have hc:(Instr.checkKey false 10000 kt (.string s)).run P (w.alloc (.map es clock))=.ok () (w.alloc (.map es clock)):=MapKept.run_checkKey (k:=.string s) hk (by simp [MapKept.IsKey]) false 9999
  have ha:∀ o,({ w.alloc (.map es clock) with heap:=(w.alloc (.map es clock)).heap.setIfInBounds w.heap.size o }:World)=w.alloc o:=fun o=>by
    have e:∀ o',(w.alloc o').heap=w.heap.push o':=fun _=>rfl
    rw [e]
    have e2:(w.heap.push (.map es clock)).setIfInBounds w.heap.size o=w.heap.push o:=by
      apply Array.ext
      · simp
      · intro i h1 h2
        simp only [Array.size_push] at h2
        rw [Array.getElem_setIfInBounds,Array.getElem_push,Array.getElem_push]
        all_goals first|(split<;>split<;>first|rfl|omega)|(simp only [Array.size_push];omega)
    rw [e2]
    rfl
  simp [Instr.mapUpdate,run_underlying hm,MapKept.run_getObj_map hb,hc,MapKept.run_findKey hk hf,MapKept.run_setObj_map _ hb,Result.andThen]
  exact ha _
def ent6 (s:ByteArray) (g:FuncId) (n:Nat):MapEntry:={ key:=.string s,val:=.func (.func g) #[] #[],born:=n }
def tests6:Array MapEntry := #[ent6 ⟨#[61]⟩ 294 0,ent6 ⟨#[60,62]⟩ 295 1,ent6 ⟨#[60]⟩ 296 2,ent6 ⟨#[60,61]⟩ 297 3,ent6 ⟨#[62]⟩ 298 4,ent6 ⟨#[62,61]⟩ 299 5]
theorem zoI (w:World):Calls Tryz.prog 288 #[] w (fun e w'=>e=.returned (.map (some w.heap.size))∧w'=w.alloc (.map tests6 6)):=by
  have hmm:=@run_makeMap Tryz.prog
  have h1:(Instr.mapUpdate 349 (.map (some w.heap.size)) (.string ⟨#[61]⟩) (.func (.func 294) #[] #[])).run Tryz.prog (w.alloc (.map #[] 0))=.ok () (w.alloc (.map #[ent6 ⟨#[61]⟩ 294 0] 1)):=zdk _ 9 155 _ _ rfl rfl rfl
  have h2:(Instr.mapUpdate 349 (.map (some w.heap.size)) (.string ⟨#[60,62]⟩) (.func (.func 295) #[] #[])).run Tryz.prog (w.alloc (.map #[ent6 ⟨#[61]⟩ 294 0] 1))=.ok () (w.alloc (.map #[ent6 ⟨#[61]⟩ 294 0,ent6 ⟨#[60,62]⟩ 295 1] 2)):=zdk _ 9 155 _ _ rfl rfl rfl
  have h3:(Instr.mapUpdate 349 (.map (some w.heap.size)) (.string ⟨#[60]⟩) (.func (.func 296) #[] #[])).run Tryz.prog (w.alloc (.map #[ent6 ⟨#[61]⟩ 294 0,ent6 ⟨#[60,62]⟩ 295 1] 2))=.ok () (w.alloc (.map #[ent6 ⟨#[61]⟩ 294 0,ent6 ⟨#[60,62]⟩ 295 1,ent6 ⟨#[60]⟩ 296 2] 3)):=zdk _ 9 155 _ _ rfl rfl rfl
  have h4:(Instr.mapUpdate 349 (.map (some w.heap.size)) (.string ⟨#[60,61]⟩) (.func (.func 297) #[] #[])).run Tryz.prog (w.alloc (.map #[ent6 ⟨#[61]⟩ 294 0,ent6 ⟨#[60,62]⟩ 295 1,ent6 ⟨#[60]⟩ 296 2] 3))=.ok () (w.alloc (.map #[ent6 ⟨#[61]⟩ 294 0,ent6 ⟨#[60,62]⟩ 295 1,ent6 ⟨#[60]⟩ 296 2,ent6 ⟨#[60,61]⟩ 297 3] 4)):=zdk _ 9 155 _ _ rfl rfl rfl
  have h5:(Instr.mapUpdate 349 (.map (some w.heap.size)) (.string ⟨#[62]⟩) (.func (.func 298) #[] #[])).run Tryz.prog (w.alloc (.map #[ent6 ⟨#[61]⟩ 294 0,ent6 ⟨#[60,62]⟩ 295 1,ent6 ⟨#[60]⟩ 296 2,ent6 ⟨#[60,61]⟩ 297 3] 4))=.ok () (w.alloc (.map #[ent6 ⟨#[61]⟩ 294 0,ent6 ⟨#[60,62]⟩ 295 1,ent6 ⟨#[60]⟩ 296 2,ent6 ⟨#[60,61]⟩ 297 3,ent6 ⟨#[62]⟩ 298 4] 5)):=zdk _ 9 155 _ _ rfl rfl rfl
  have h6:(Instr.mapUpdate 349 (.map (some w.heap.size)) (.string ⟨#[62,61]⟩) (.func (.func 299) #[] #[])).run Tryz.prog (w.alloc (.map #[ent6 ⟨#[61]⟩ 294 0,ent6 ⟨#[60,62]⟩ 295 1,ent6 ⟨#[60]⟩ 296 2,ent6 ⟨#[60,61]⟩ 297 3,ent6 ⟨#[62]⟩ 298 4] 5))=.ok () (w.alloc (.map #[ent6 ⟨#[61]⟩ 294 0,ent6 ⟨#[60,62]⟩ 295 1,ent6 ⟨#[60]⟩ 296 2,ent6 ⟨#[60,61]⟩ 297 3,ent6 ⟨#[62]⟩ 298 4,ent6 ⟨#[62,61]⟩ 299 5] 6)):=zdk _ 9 155 _ _ rfl rfl rfl
  go_enter Tryz.func288,Tryz.ntmps288
  go_wp2
  go_ret
  exact ⟨rfl,rfl⟩
theorem ziO:Enters Tryz.prog 288:=fun xs w=>by kernel_rfl
section
variable {nt:Nat} {w0:W0} {S0:Nat→Nat→Prop} {fr:Fr} {σ:Obs} {ops:Array Oper} {o1 o2 o3:Oper} {rest:List Oper} {Q:Fr→Obs→Prop} {d1 d2 d3 i:Nat} {x:Operand} {s:ByteArray} {g:FuncId}
theorem uTests (hs:Instr.findNow .string (.string s) tests6.toList 0=some (some (i,.func (.func g) #[] #[]))) (h:RL (cx nt w0 S0) ops rest ((d3,.tup [.one (.d (.fn g [])),vB true]) :: (d2,vS s) :: (d1,.junk) :: fr) σ Q)
    (ho1:o1.op=.call { callee:=.value (.func 288),args := #[],argTypes := #[] }:=by rfl) (ho2:o2.op=.move x:=by rfl) (ho3:o3.op=.lookup 349 (.tmp d1) (.tmp d2) true:=by rfl)
    (g1:o1.guard=none:=by rfl) (g2:o2.guard=none:=by rfl) (g3:o3.guard=none:=by rfl) (e1:o1.dst=some d1:=by rfl) (e2:o2.dst=some d2:=by rfl) (e3:o3.dst=some d3:=by rfl)
    (l1:Nat.blt d1 nt=true:=by rfl) (l2:Nat.blt d2 nt=true:=by rfl) (l3:Nat.blt d3 nt=true:=by rfl) (h12:d1≠d2:=by decide) (hx:ev ((d1,.junk) :: fr) x=some (vS s):=by rfl):RL (cx nt w0 S0) ops (o1 :: o2 :: o3 :: rest) fr σ Q :=
  ⟨fun γ T S w a K hr hk=>wpList_plain g1 fun K1 hK1=>by
    unfold Oper.wp
    rw [zbs ho1]
    show Oper.upon Tryz.prog o1 a K1 K ((callFunc 288 (List.map a.eval #[].toList).toArray).run Tryz.prog w)
    rw [ziO,Oper.upon_enter]
    refine (zoI w).mono fun e w' he=>?_
    obtain ⟨rfl,rfl⟩:=he
    have hr1:=(hr.grow (zbh w (.map tests6 6)) (fun _ _ h=>h) (fun _ _ h=>.inl h)).put (dst:=some d1) (x:=.junk) (v:=.map (some w.heap.size)) l1 (.junk _)
    show K1 (a.put o1.dst _) _
    rw [e1]
    refine hK1 _ _ (wpList_plain g2 fun K2 hK2=>?_)
    have v2:(a.put (some d1) (.map (some w.heap.size))).eval x=.string s:=zaw (zae hr1 hx)
    unfold Oper.wp
    have x2:(execOp (a.put (some d1) (.map (some w.heap.size))).eval o2).run Tryz.prog (w.alloc (.map tests6 6))=.ok (.value (.string s)) (w.alloc (.map tests6 6)):=by
      simp only [execOp,ho2,v2,Sem.run_pure]
    rw [show (cx nt w0 S0).P=Tryz.prog from rfl,x2,Oper.upon_value,e2]
    have hr2:=hr1.put (dst:=some d2) (x:=vS s) (v:=.string s) l2 (.one (.v _ rfl))
    refine hK2 _ _ (wpList_plain g3 fun K3 hK3=>?_)
    have z1:d1 < a.tmps.size:=by rw [hr.nt];exact Nat.le_of_ble_eq_true l1
    have z2:d2 < (a.put (some d1) (.map (some w.heap.size))).tmps.size:=by rw [hr1.nt];exact Nat.le_of_ble_eq_true l2
    have m1:((a.put (some d1) (.map (some w.heap.size))).put (some d2) (.string s)).eval (.tmp d1)=.map (some w.heap.size):=by
      show ((a.put (some d1) (.map (some w.heap.size))).put (some d2) (.string s)).tmps.getD d1 undef=_
      simp [Act.put,Array.getD_eq_getD_getElem?,h12.symm,z1]
    have m2:((a.put (some d1) (.map (some w.heap.size))).put (some d2) (.string s)).eval (.tmp d2)=.string s:=by
      show ((a.put (some d1) (.map (some w.heap.size))).put (some d2) (.string s)).tmps.getD d2 undef=_
      exact zeh _ z2
    have hb:(w.alloc (.map tests6 6)).heap[w.heap.size]?=some (.map tests6 6):=(MapKept.heap_alloc w _).1
    have hc:(Instr.checkKey tests6.isEmpty 10000 9 (.string s)).run Tryz.prog (w.alloc (.map tests6 6))=.ok () (w.alloc (.map tests6 6)):=MapKept.run_checkKey (k:=.string s) Tryz.underlying9 (by simp [MapKept.IsKey]) _ 9999
    have x3:(execOp ((a.put (some d1) (.map (some w.heap.size))).put (some d2) (.string s)).eval o3).run Tryz.prog (w.alloc (.map tests6 6))=.ok (.value (.tuple #[.func (.func g) #[] #[],.bool true])) (w.alloc (.map tests6 6)):=by
      simp only [execOp,ho3,m1,m2]
      simp [Instr.lookup,run_underlying Tryz.underlying349,MapKept.run_getObj_map hb,hc,MapKept.run_findKey Tryz.underlying9 hs]
    unfold Oper.wp
    rw [show (cx nt w0 S0).P=Tryz.prog from rfl,x3,Oper.upon_value,e3]
    refine hK3 _ _ (h.out γ T S _ _ K (hr2.put (dst:=some d3) l3 (.tup _ [.func (.func g) #[] ([]:List Value).toArray,.bool true] rfl fun j y u hy hu=>?_)) hk)
    match j,hy,hu with
    | 0,hy,hu=>simp only [List.getElem?_cons_zero,Option.some.injEq] at hy hu;subst hy;subst hu;exact .one (.fn _ [] [] rfl fun i q u hq=>by simp at hq)
    | 1,hy,hu=>simp only [List.getElem?_cons_succ,List.getElem?_cons_zero,Option.some.injEq] at hy hu;subst hy;subst hu;exact .one (.v _ rfl)
    | j+2,hy,hu=>simp at hy⟩
end
def truthV (b:Bool):Val:=⟨1,if b=true then 1 else 0,0,⟨#[]⟩⟩
def testR (f:Int→Bool) (ne:Bool) (a b:Val):Val × Int :=
  if valueRight a=false∨valueRight b=false then (zeroVal,1)
  else if a.kind=0∨b.kind=0 then (zeroVal,0)
  else if a.kind≠b.kind∧(isNum a=false∨isNum b=false) then (zeroVal,4)
  else if (agV a b).2=false then (truthV ne,0) else (truthV (f (agV a b).1),0)
theorem zdZ (s:ByteArray) (g:FuncId) (f:Int→Bool) (ne:Bool) (i:Nat) (hs:Instr.findNow .string (.string s) tests6.toList 0=some (some (i,.func (.func g) #[] #[]))) (hne:(s.toList==ByteArray.toList ⟨#[60,62]⟩)=ne) (hf:∀ c,CallsV Tryz.prog g [vI c] (.val (vB (f c)))) (a b:Val) :
    CallsV Tryz.prog 264 [vS s,.dat (encV a),.dat (encV b)] (.val (.tup [.dat (encV (testR f ne a b).1),vI (testR f ne a b).2])):=by
  have h1:=zbE a
  have h2:=zbE b
  have h3:=zd8 a
  have h4:=zd8 b
  have h5:=zme a b
  have h6:=zfm ne
  have h7:=zfm (f (agV a b).1)
  have h8:=hf (agV a b).1
  cases ne
  all_goals
    (refine zaa (Ty:=Ty) zad Tryz.func264 rfl rfl rfl fun w0 S0=>?_;refine enA ?_)
    repeat' (first|(refine isRL ?_;first|refine uTests hs ?_|(refine isCl ?_;first|refine uC (h1) ?_|refine uC (h2) ?_|refine uC (h3) ?_|refine uC (h4) ?_|refine uC (h5) ?_|refine uC (h6) ?_|refine uC (h7) ?_|refine uC (h8) ?_|refine uDc (h8) ?_))|refine nx ?_|(refine nx2 ?_ ?_<;>intro hb))
    all_goals exact zab (by rfl) (by first|(simp [testR,isNum,truthV,zeroVal,encV, *];done)|(simp [testR,isNum,truthV,zeroVal,encV, *];rfl))
theorem t1_v (c:Int):CallsV Tryz.prog 294 [vI c] (.val (vB (c==0))):=by
  (refine zaa (Ty:=Ty) zad Tryz.func294 rfl rfl rfl fun w0 S0=>?_;refine enA ?_)
  repeat refine nx ?_
  exact zab (by rfl) rfl
theorem t2_v (c:Int):CallsV Tryz.prog 295 [vI c] (.val (vB (c != 0))):=by
  (refine zaa (Ty:=Ty) zad Tryz.func295 rfl rfl rfl fun w0 S0=>?_;refine enA ?_)
  repeat refine nx ?_
  exact zab (by rfl) rfl
theorem t3_v (c:Int):CallsV Tryz.prog 296 [vI c] (.val (vB (decide (c < 0)))):=by
  (refine zaa (Ty:=Ty) zad Tryz.func296 rfl rfl rfl fun w0 S0=>?_;refine enA ?_)
  repeat refine nx ?_
  exact zab (by rfl) rfl
theorem t4_v (c:Int):CallsV Tryz.prog 297 [vI c] (.val (vB (decide (c≤0)))):=by
  (refine zaa (Ty:=Ty) zad Tryz.func297 rfl rfl rfl fun w0 S0=>?_;refine enA ?_)
  repeat refine nx ?_
  exact zab (by rfl) rfl
theorem t5_v (c:Int):CallsV Tryz.prog 298 [vI c] (.val (vB (decide (c > 0)))):=by
  (refine zaa (Ty:=Ty) zad Tryz.func298 rfl rfl rfl fun w0 S0=>?_;refine enA ?_)
  repeat refine nx ?_
  exact zab (by rfl) rfl
theorem t6_v (c:Int):CallsV Tryz.prog 299 [vI c] (.val (vB (decide (c≥0)))):=by
  (refine zaa (Ty:=Ty) zad Tryz.func299 rfl rfl rfl fun w0 S0=>?_;refine enA ?_)
  repeat refine nx ?_
  exact zab (by rfl) rfl
inductive Six:ByteArray→(Int→Bool)→Bool→Prop
  | eq:Six ⟨#[61]⟩ (fun c=>c==0) false
  | ne:Six ⟨#[60,62]⟩ (fun c=>c != 0) true
  | lt:Six ⟨#[60]⟩ (fun c=>decide (c < 0)) false
  | le:Six ⟨#[60,61]⟩ (fun c=>decide (c≤0)) false
  | gt:Six ⟨#[62]⟩ (fun c=>decide (c > 0)) false
  | ge:Six ⟨#[62,61]⟩ (fun c=>decide (c≥0)) false
theorem zk6 {s:ByteArray} {f:Int→Bool} {ne:Bool} (h:Six s f ne) (a b:Val):CallsV Tryz.prog 264 [vS s,.dat (encV a),.dat (encV b)] (.val (.tup [.dat (encV (testR f ne a b).1),vI (testR f ne a b).2])):=by
  cases h
  · exact zdZ _ _ _ _ 0 rfl (by rw [ByteArray.toList_eq,ByteArray.toList_eq];decide) t1_v a b
  · exact zdZ _ _ _ _ 1 rfl (by rw [ByteArray.toList_eq];decide) t2_v a b
  · exact zdZ _ _ _ _ 2 rfl (by rw [ByteArray.toList_eq,ByteArray.toList_eq];decide) t3_v a b
  · exact zdZ _ _ _ _ 3 rfl (by rw [ByteArray.toList_eq,ByteArray.toList_eq];decide) t4_v a b
  · exact zdZ _ _ _ _ 4 rfl (by rw [ByteArray.toList_eq,ByteArray.toList_eq];decide) t5_v a b
  · exact zdZ _ _ _ _ 5 rfl (by rw [ByteArray.toList_eq,ByteArray.toList_eq];decide) t6_v a b
end Go.Proofs.YtiplihojmfbjkaaGreat
namespace Go.Proofs.YtiplihojmfbjkaaGreat
open Go.RowKit
def preOk (l tl:List Oper):Bool :=
  Region.noSelect (l++tl).toArray&&regOkA (l++tl).toArray l &&
  ((List.range tl.length).all fun j=>match tl[j]? with
    | some o=>(o.after.all fun e=>!Region.binds .any e || decide (e.on < l.length+j))&&(reachO (l++tl) (l.length+j) [l.length+j]).contains l.length
    | none=>false) &&
  (List.range l.length).all fun j=>(reachO (l++tl) l.length [l.length]).contains j
section
variable {X:Ctx} {fr fr0:Fr} {σ σ':Obs} {a:Act} {w:World} {l tl:List Oper} {o:Oper} {τ0 σB:Obs} {xs:Nat→VV} {es:Nat→Eff} {fs:Nat→Fr} {Ks:Nat→List Cr} {Cs:Nat→Cons}
theorem zja (hne:0 < tl.length) (h:Found X (l++tl).toArray l τ0 σB fr0 xs es fs Ks Cs) (hpre:preOk l tl=true) {QQ:Exit→Act→World→Prop}
    (hq:∀ γ T S w a listed fuel,Rel X γ T S w (fs l.length) (finS τ0 σB (Ks l.length) (Cs l.length)) a→listed.size=(l++tl).length→(∀ j,j < l.length→listed.getD j true=true)→(∀ j,l.length≤j→j < (l++tl).length→listed.getD j true=false)→tl.length≤fuel→wpAny X.P .any (l++tl).toArray QQ fuel listed a w) :
    ∀ (fuel:Nat) (listed:Array Bool) (a:Act) (w:World),listed.size=(l++tl).length→
    (∀ i p,(l++tl)[i]?=some p→listed.getD i true=true→ ∀ e∈p.after,Region.binds .any e=true→listed.getD e.on true=true)→fuel=(listed.toList.filter (fun b=>!b)).length→(∀ j,l.length≤j→j < (l++tl).length→listed.getD j true=false)→InvL X l τ0 σB fr0 xs es (fun j=>listed.getD j true) a w→wpAny X.P .any (l++tl).toArray QQ fuel listed a w:=by
  unfold preOk at hpre
  simp only [Bool.and_eq_true,List.all_eq_true] at hpre
  obtain ⟨⟨⟨_,_⟩,htail⟩,hreach⟩:=hpre
  have hsum:(l++tl).length=l.length+tl.length:=List.length_append
  have hpre:∀ (i:Nat) (p:Oper),l[i]?=some p→(l++tl)[i]?=some p:=fun i p hp=>by
    rw [List.getElem?_append_left (List.getElem?_eq_some_iff.1 hp).1];exact hp
  have htl:∀ (j:Nat) (p:Oper),tl[j]?=some p→(∀ e∈p.after,Region.binds .any e=true→e.on < l.length+j)∧(reachO (l++tl) (l.length+j) [l.length+j]).contains l.length=true:=fun j p hp=>by
    have h1:=htail j (List.mem_range.2 (List.getElem?_eq_some_iff.1 hp).1)
    rw [hp] at h1
    simp only [Bool.and_eq_true,Array.all_eq_true_iff_forall_mem] at h1
    refine ⟨fun e he hb=>?_,h1.2⟩
    have h5:=h1.1 e he
    rw [hb] at h5;simpa using h5
  have tf:∀ (listed:Array Bool) (j:Nat),listed.size=(l++tl).length→j < (l++tl).length→(listed.getD j false=listed.getD j true):=by
    intro listed j hsz hj
    have:j < listed.size:=by omega
    simp only [Array.getD,this,dif_pos]
  have ahead:∀ (i:Nat) (p:Oper),(l++tl)[i]?=some p→ ∀ e∈p.after,Region.binds .any e=true→e.on < i:=by
    intro i p hp e he hb
    by_cases hi:i < l.length
    · rw [List.getElem?_append_left hi] at hp
      exact (zbp h.ok hp).2.1 e he hb
    · rw [List.getElem?_append_right (by omega)] at hp
      have:=(htl _ p hp).1 e he hb;omega
  have none_ready:∀ (listed:Array Bool),listed.size=(l++tl).length→Region.ready .any (l++tl).toArray listed=[]→ ∀ i,i < (l++tl).length→listed.getD i true=true:=by
    intro listed hsz hr i
    induction i using Nat.strongRecOn with
    | _ i ih =>
      intro hi
      cases hb:listed.getD i true with
      | true=>rfl
      | false =>
        have ho:(l++tl)[i]?=some (l++tl)[i]:=List.getElem?_eq_getElem hi
        have:i∈Region.ready .any (l++tl).toArray listed:=mem_ready.2 ⟨hb,(l++tl)[i],by simp,fun e he hb=>by
          have hlt:=ahead i _ ho e he hb
          rw [tf listed _ hsz (by omega)]
          exact ih e.on hlt (by omega)⟩
        rw [hr] at this
        cases this
  intro fuel
  induction fuel with
  | zero =>
    intro listed a w hsz hcl hf hun hfr
    exfalso
    have hlt:l.length < listed.size:=by omega
    have hn:=List.eq_nil_of_length_eq_zero hf.symm
    rw [List.filter_eq_nil_iff] at hn
    have:=hn listed[l.length] (by simp)
    have hx:listed[l.length]=false:=by simpa [Array.getD,hlt] using hun l.length (Nat.le_refl _) (by omega)
    rw [hx] at this
    exact this rfl
  | succ fuel ih =>
    intro listed a w hsz hcl hf hun0 hfr
    by_cases hall:∀ j,j < l.length→listed.getD j true=true
    · obtain ⟨γ,T,S,hr⟩:=hfr.done h hall
      refine hq γ T S w a listed (fuel+1) hr hsz hall hun0 ?_
      have e1:listed.toList.filter (fun b=>!b)=(listed.toList.take l.length).filter (fun b=>!b)++(listed.toList.drop l.length).filter (fun b=>!b):=by rw [← List.filter_append,List.take_append_drop]
      have e2:(listed.toList.drop l.length).filter (fun b=>!b)=listed.toList.drop l.length:=by
        rw [List.filter_eq_self]
        intro b hb
        obtain ⟨k,hk,rfl⟩:=List.mem_iff_getElem.1 hb
        rw [List.length_drop] at hk
        have hk2:l.length+k < listed.size:=by simp at hk;omega
        have h7:=hun0 (l.length+k) (by omega) (by omega)
        simp only [Array.getD,hk2,dif_pos] at h7
        rw [List.getElem_drop]
        simpa using h7
      rw [hf,e1,List.length_append,e2,List.length_drop]
      simp only [Array.length_toList]
      omega
    refine ⟨fun hr=>(by have:=none_ready listed hsz hr l.length (by omega);rw [hun0 _ (Nat.le_refl _) (by omega)] at this;cases this),fun i hi=>?_⟩
    obtain ⟨hun,p,hp,hdeps⟩:=mem_ready.1 hi
    have hp':(l++tl)[i]?=some p:=by simpa using hp
    have hlt:i < (l++tl).length:=(List.getElem?_eq_some_iff.1 hp').1
    have hdeps':∀ e∈p.after,Region.binds .any e=true→listed.getD e.on true=true:=fun e he hb=>by
      rw [← tf listed _ hsz (by have:=ahead i p hp' e he hb;omega)];exact hdeps e he hb
    have hL:∀ j,(listed.setIfInBounds i true).getD j true=true↔(j=i∨listed.getD j true=true):=by
      intro j
      by_cases hij:i=j
      · subst hij
        have:i < listed.size:=by omega
        simp [this]
      · rw [getD_set_ne true hij];simp [Ne.symm hij]
    have hcl':∀ j q,(l++tl)[j]?=some q→(listed.setIfInBounds i true).getD j true=true→ ∀ e∈q.after,Region.binds .any e=true→(listed.setIfInBounds i true).getD e.on true=true:=by
      intro j q hq hj e he hb
      refine (hL _).2 (.inr ?_)
      rcases (hL j).1 hj with rfl|hj
      · rw [hp'] at hq
        injection hq with hq
        subst hq
        exact hdeps' e he hb
      · exact hcl j q hq hj e he hb
    have hfuel:fuel=((listed.setIfInBounds i true).toList.filter (fun b=>!b)).length:=by
      have hil:i < listed.size:=by omega
      have hfi:listed[i]=false:=by simpa [Array.getD,hil] using hun
      have hc:∀ (l:List Bool) (k:Nat) (hkl:k < l.length),l[k]=false→((l.set k true).filter (fun b=>!b)).length+1=(l.filter (fun b=>!b)).length:=by
        intro l
        induction l with
        | nil=>intro k hkl;simp at hkl
        | cons b l ih2 =>
          intro k hkl hb
          cases k with
          | zero=>simp only [List.getElem_cons_zero] at hb;subst hb;simp
          | succ k =>
            simp only [List.getElem_cons_succ] at hb
            have:=ih2 k (by simpa using hkl) hb
            cases b<;>simp at this ⊢ <;> omega
      have:=hc listed.toList i (by simpa using hil) (by simpa using hfi)
      rw [Array.toList_setIfInBounds]
      omega
    have hin:i < l.length:=by
      refine Classical.byContradiction fun hge=>hall fun j hj=>?_
      have hti:tl[i - l.length]?=some p:=by rw [List.getElem?_append_right (by omega)] at hp';exact hp'
      have h6:=(htl _ p hti).2
      rw [show l.length+(i - l.length)=i by omega] at h6
      have h7:=zbH hcl' i [i] (fun k hk=>by obtain rfl:=List.mem_singleton.1 hk;exact (hL _).2 (.inl rfl)) l.length (by simpa using h6)
      have hil:i=l.length:=by
        rcases (hL _).1 h7 with e|e
        · exact e.symm
        · rw [hun0 _ (Nat.le_refl _) (by omega)] at e;cases e
      have h8:=zbH hcl' l.length [l.length] (fun k hk=>by obtain rfl:=List.mem_singleton.1 hk;exact h7) j (by simpa using hreach j (List.mem_range.2 hj))
      exact ((hL j).1 h8).resolve_left (by omega)
    unfold wpOp
    simp only [hp]
    have ho':l[i]?=some p:=by rw [List.getElem?_append_left hin] at hp';exact hp'
    have hlast':∀ j,l.length≤j→j < (l++tl).length→(listed.setIfInBounds i true).getD j true=false:=fun j h1 h2=>by
      rw [getD_set_ne true (by omega)];exact hun0 j h1 h2
    have go:∀ a' w',InvL X l τ0 σB fr0 xs es (fun j=>(listed.setIfInBounds i true).getD j true) a' w'→wpAny X.P .any (l++tl).toArray QQ fuel (listed.setIfInBounds i true) a' w':=fun a' w' hw'=>ih _ _ w' (by simpa using hsz) hcl' hfuel hlast' hw'
    rcases hfr.step h ho' (L':=fun j=>(listed.setIfInBounds i true).getD j true) hL hun hdeps' (fun j q hq hj=>hcl j q (hpre j q hq) hj) with ⟨hw,hout⟩ | ⟨hw,hinv⟩
    · rw [if_pos hw]
      exact .inl (hout.wp fun v w' hv=>go _ w' hv)
    · rw [if_neg (by rw [hw];decide)]
      exact go _ w hinv
def TailOk (X:Ctx) (l tl:List Oper) (fr:Fr) (σ:Obs) (QQ:Exit→Act→World→Prop):Prop :=
  ∀ γ T S w a listed fuel,Rel X γ T S w fr σ a→listed.size=(l++tl).length→(∀ j,j < l.length→listed.getD j true=true)→(∀ j,l.length≤j→j < (l++tl).length→listed.getD j true=false)→tl.length≤fuel→wpAny X.P .any (l++tl).toArray QQ fuel listed a w
theorem znM {id:Nat} {QQ:Exit→Fr→Obs→Prop} (hm:X.P.follows .mixedOrders=true) (τ0 σB:Obs) (hne:0 < tl.length) (hok:preOk l tl=true) (hs1:∀ p∈τ0,look σ p.1=some p.2) (hs2:Sub σB σ) (h:DSeq X (l++tl).toArray τ0 σB (fun fr σ=>TailOk X l tl fr σ (LQ X QQ)) 0 [] [] l fr):W X (.region id (l++tl).toArray true) fr σ QQ :=
  ⟨fun γ T S w a hr=>by
    obtain ⟨xs,es,fs,Ks,Cs,h1,h2,h3,h4,h5⟩:=zdw l 0 [] [] fr h
    simp only [Nat.zero_add] at h4 h5
    have hok2:=hok
    unfold preOk at hok2
    simp only [Bool.and_eq_true] at hok2
    have hF:Found X (l++tl).toArray l τ0 σB fr xs es fs Ks Cs:=⟨hok2.1.1.2,h1,h2,h3,h4⟩
    refine wp_region_any hm ?_
    have hr0:Rel X γ T S { w with drawn:=w.drawn+1 } fr σ a:=hr.grow ⟨rfl,rfl,rfl,Nat.le_refl _,fun _ _=>rfl⟩ (fun _ _ h=>h) (fun _ _ h=>.inl h)
    have hun:∀ j,j < (l++tl).length→(Array.replicate (l++tl).length false).getD j true=false:=fun j hj=>by
      simp only [Array.getD,Array.size_replicate,hj,dif_pos]
      simp
    have hsz:(l++tl).toArray.size=(l++tl).length:=by simp
    have hsum:(l++tl).length=l.length+tl.length:=List.length_append
    rw [hsz]
    refine zja hne hF hok (QQ:=LQ X QQ) h5 (l++tl).length (Array.replicate (l++tl).length false) a { w with drawn:=w.drawn+1 } (by simp) (fun i p hp hi=>?_) (by simp) (fun j _ hj=>hun j hj) ⟨γ,T,S,fr,σ,hr0,fun t x hx=>?_,hs2,fun k ob hk=>?_⟩
    · have hlt:i < (l++tl).length:=(List.getElem?_eq_some_iff.1 hp).1
      rw [hun i hlt] at hi;cases hi
    · unfold FL at hx
      cases hw:wrO l t with
      | none=>rw [hw] at hx;exact hx
      | some j =>
        rw [hw] at hx
        obtain ⟨p,hp,_⟩:=zcA hw
        have hlt:=(List.getElem?_eq_some_iff.1 hp).1
        simp only [hun j (by omega),Bool.false_eq_true,if_false] at hx
        exact hx
    · rcases hk with hk | ⟨j,o,b,hj,ho,_⟩
      · rcases hk.2 with h6 | ⟨j,o,hj,ho,_⟩
        · exact hs1 _ h6
        · have hlt:=(List.getElem?_eq_some_iff.1 ho).1
          simp only [hun j (by omega)] at hj;cases hj
      · have hlt:=(List.getElem?_eq_some_iff.1 ho).1
        simp only [hun j (by omega)] at hj;cases hj⟩
end
end Go.Proofs.YtiplihojmfbjkaaGreat
namespace Go.Proofs.YtiplihojmfbjkaaGreat
open Go.RowKit
def linOk (n:Nat) (tl:List Oper):Bool:=(List.range tl.length).all fun j=>match tl[j]? with
  | some o=>(List.range j).all (fun i=>onO o (n+i))&&o.after.all fun e=>!Region.binds .any e || decide (e.on < n+j)
  | none=>false
theorem zie {n:Nat} {tl:List Oper} (h:linOk n tl=true) {j:Nat} {o:Oper} (ho:tl[j]?=some o):(∀ i,i < j→ ∃ e∈o.after,Region.binds .any e=true∧e.on=n+i)∧ ∀ e∈o.after,Region.binds .any e=true→e.on < n+j:=by
  unfold linOk at h
  rw [List.all_eq_true] at h
  have h1:=h j (List.mem_range.2 (List.getElem?_eq_some_iff.1 ho).1)
  rw [ho] at h1
  simp only [Bool.and_eq_true,List.all_eq_true,Array.all_eq_true_iff_forall_mem] at h1
  refine ⟨fun i hi=>zbo (h1.1 i (List.mem_range.2 hi)),fun e he hb=>?_⟩
  have h5:=h1.2 e he
  rw [hb] at h5;simpa using h5
theorem znu {P:Program} {l tl:List Oper} {QQ:Exit→Act→World→Prop} (hok:linOk l.length tl=true):∀ (k j:Nat) (a:Act) (w:World) (listed:Array Bool) (fuel:Nat),j+k=tl.length→k≤fuel→listed.size=(l++tl).length→
    (∀ i,i < l.length+j→listed.getD i true=true)→(∀ i,l.length+j≤i→i < (l++tl).length→listed.getD i true=false)→wpList P (l++tl).toArray QQ (tl.drop j) a w→wpAny P .any (l++tl).toArray QQ fuel listed a w:=by
  intro k
  have hsum:(l++tl).length=l.length+tl.length:=List.length_append
  have tf:∀ (listed:Array Bool) (j:Nat),listed.size=(l++tl).length→j < (l++tl).length→(listed.getD j false=listed.getD j true):=by
    intro listed j hsz hj
    have:j < listed.size:=by omega
    simp only [Array.getD,this,dif_pos]
  induction k with
  | zero =>
    intro j a w listed fuel hj hf hsz hl hun h
    rw [List.drop_of_length_le (by omega)] at h
    refine wpAny_done ?_ h fuel
    rw [List.eq_nil_iff_forall_not_mem]
    intro i hi
    obtain ⟨h1,q,hq,_⟩:=mem_ready.1 hi
    have hlt:i < (l++tl).length:=by simpa using (Array.getElem?_eq_some_iff.1 hq).1
    rw [hl i (by omega)] at h1;cases h1
  | succ k ih =>
    intro j a w listed fuel hj hf hsz hl hun h
    obtain ⟨f,rfl⟩:∃ f,fuel=f+1:=⟨fuel - 1,by omega⟩
    obtain ⟨o,ho⟩:∃ o,tl[j]?=some o:=⟨_,List.getElem?_eq_getElem (by omega)⟩
    have hoA:(l++tl).toArray[l.length+j]?=some o:=by
      rw [List.getElem?_toArray,List.getElem?_append_right (by omega),show l.length+j - l.length=j by omega];exact ho
    obtain ⟨_,hback⟩:=zie hok ho
    refine ⟨fun hr=>?_,fun i hi=>?_⟩
    · exfalso
      have:l.length+j∈Region.ready .any (l++tl).toArray listed:=mem_ready.2 ⟨hun _ (Nat.le_refl _) (by omega),o,hoA,fun e he hb=>by
        have:=hback e he hb
        rw [tf listed _ hsz (by omega)]
        exact hl _ this⟩
      rw [hr] at this;cases this
    · obtain ⟨h1,q,hq,hdeps⟩:=mem_ready.1 hi
      have hlt:i < (l++tl).length:=by simpa using (Array.getElem?_eq_some_iff.1 hq).1
      have hge:l.length+j≤i:=by
        refine Classical.byContradiction fun hc=>?_
        rw [hl i (by omega)] at h1;cases h1
      have hij:i=l.length+j:=by
        refine Classical.byContradiction fun hc=>?_
        have hqt:tl[i - l.length]?=some q:=by
          rw [List.getElem?_toArray,List.getElem?_append_right (by omega)] at hq;exact hq
        obtain ⟨e,he,hb,hon⟩:=(zie hok hqt).1 j (by omega)
        have h2:=hdeps e he hb
        rw [hon,tf listed _ hsz (by omega),hun _ (Nat.le_refl _) (by omega)] at h2
        cases h2
      subst hij
      rw [hoA] at hq
      injection hq with hq
      subst hq
      have hd:tl.drop j=o :: tl.drop (j+1):=by
        have hjt:j < tl.length:=by omega
        rw [List.drop_eq_getElem_cons hjt]
        rw [List.getElem?_eq_getElem hjt] at ho
        injection ho with ho
        rw [ho]
      rw [hd] at h
      unfold wpList at h
      have hnext:∀ a' w',wpList P (l++tl).toArray QQ (tl.drop (j+1)) a' w'→wpAny P .any (l++tl).toArray QQ f (listed.setIfInBounds (l.length+j) true) a' w':=fun a' w' h'=>by
        refine ih (j+1) a' w' _ f (by omega) (by omega) (by simpa using hsz) (fun i hi=>?_) (fun i h1 h2=>?_) h'
        · by_cases e:l.length+j=i
          · subst e
            have:l.length+j < listed.size:=by omega
            simp [this]
          · rw [getD_set_ne true e];exact hl i (by omega)
        · rw [getD_set_ne true (by omega)];exact hun i (by omega) h2
      unfold wpOp
      simp only [hoA]
      split
      · rename_i hw
        rw [if_pos hw] at h
        exact h.imp (Oper.wp_mono hnext) id
      · rename_i hw
        rw [if_neg hw] at h
        exact hnext _ _ h
theorem zhv {X:Ctx} {ops:Array Oper} {τ0 σB:Obs} {Q Q':Fr→Obs→Prop} (hq:∀ fr σ,Q fr σ→Q' fr σ):∀ (l:List Oper) (k:Nat) (K:List Cr) (C:Cons) (fr:Fr),DSeq X ops τ0 σB Q k K C l fr→DSeq X ops τ0 σB Q' k K C l fr
  | [],_,_,_,_,h=>hq _ _ h
  | _ :: rest,_,_,_,_,⟨x,eff,hs,h⟩=>⟨x,eff,hs,zhv hq rest _ _ _ _ h⟩
section
variable {nt:Nat} {w0:W0} {S0:Nat→Nat→Prop} {fr:Fr} {σ:Obs}
theorem uLin (n:Nat) {id:Nat} {l l1 l2:List Oper} {QQ:Exit→Fr→Obs→Prop} (h1:l.take n=l1) (h2:l.drop n=l2) (h:DSeq (cx nt w0 S0) l.toArray [] σ (fun fr σ=>RL (cx nt w0 S0) l.toArray l2 fr σ (QQ .normal)) 0 [] [] l1 fr)
    (hok:preOk l1 l2=true:=by kernel_rfl) (hlin:linOk l1.length l2=true:=by kernel_rfl) (hne:Nat.blt 0 l2.length=true:=by rfl):W (cx nt w0 S0) (.region id l.toArray true) fr σ QQ:=by
  have e:l=l1++l2:=by rw [← h1,← h2,List.take_append_drop]
  subst e
  refine znM (X:=cx nt w0 S0) zeT [] σ (Nat.le_of_ble_eq_true hne) hok (fun p hp=>by cases hp) (fun _ _ h=>h) ?_
  refine zhv (fun fr σ hq γ T S w a listed fuel hr hsz hl hun hf=>?_) _ _ _ _ _ h
  exact znu hlin l2.length 0 a w listed fuel (by omega) hf hsz hl hun (hq.out γ T S w a (LQ (cx nt w0 S0) QQ) hr fun γ T S _ _ fr σ hr hq=>⟨γ,T,S,fr,σ,hr,hq⟩)
end
end Go.Proofs.YtiplihojmfbjkaaGreat
