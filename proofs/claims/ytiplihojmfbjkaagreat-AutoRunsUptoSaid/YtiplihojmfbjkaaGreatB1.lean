/- The walks of package label's functions: Word,bare,kinds,term,Right;and slices.IndexFunc,ContainsFunc over expressions. -/
import Derived.Test.YtiplihojmfbjkaaGreatA1
import Derived.MapKept
set_option maxRecDepth 100000
set_option maxHeartbeats 4000000
namespace Go.Proofs.YtiplihojmfbjkaaGreat
open Go.RowKit
section
variable {P:Program} {ops:Array Oper} {rest:List Oper} {o:Oper} {a:Act} {w:World} {Q:Exit→Act→World→Prop}
theorem zh5 (W:World) (o o':Obj):({ (W.alloc o) with heap:=(W.alloc o).heap.setIfInBounds W.heap.size o' }:World)=W.alloc o':=by
  show ({ W with heap:=(W.heap.push o).setIfInBounds W.heap.size o' }:World)={ W with heap:=W.heap.push o' }
  congr 1
  apply Array.ext_getElem?
  intro i
  rw [Array.getElem?_setIfInBounds,Array.getElem?_push,Array.getElem?_push,Array.size_push]
  split
  · subst_vars;simp
  · rename_i hne;rw [if_neg (fun he=>hne he.symm)];rw [if_neg (fun he=>hne he.symm)]
theorem zgO {t k e:TypeId} (ht:P.underlying t=some (.map k e)) (hk:P.underlying k=some (.int .i64)) (W:World) (es:Array MapEntry) (clock:Nat) (n:Int) (v:Value)
    (hn:Instr.findNow (.int .i64) (.int .i64 n) es.toList 0=some none) :
    (Instr.mapUpdate t (.map (some W.heap.size)) (.int .i64 n) v).run P (W.alloc (.map es clock))=.ok () (W.alloc (.map (es.push { key:=.int .i64 n,val:=v,born:=clock }) (clock+1))):=by
  have hb:(W.alloc (.map es clock)).heap[W.heap.size]?=some (.map es clock):=heap_alloc_new W _
  have hc:=MapKept.run_checkKey (P:=P) (w:=W.alloc (.map es clock)) hk (k:=.int .i64 n) (show MapKept.IsKey (.int .i64) (.int .i64 n) from rfl) false 9999
  have hs:=MapKept.run_setObj_map (P:=P) (.map (es.push { key:=.int .i64 n,val:=v,born:=clock }) (clock+1)) hb
  rw [show ({ (W.alloc (.map es clock)) with heap:=(W.alloc (.map es clock)).heap.setIfInBounds W.heap.size (.map (es.push { key:=.int .i64 n,val:=v,born:=clock }) (clock+1)) }:World)=_ from zh5 W _ _] at hs
  simp only [Instr.mapUpdate,Sem.run_bind,run_underlying ht,MapKept.run_getObj_map hb,Result.andThen_ok,hc,MapKept.run_findKey hk hn,hs]
theorem zk0 (hgd:o.guard=none) {t:TypeId} {m x:Operand} {n:Int} (ho:o.op=.insert t m (.const (.int .i64 n)) x) (hd:o.dst=none) (v:Value) (hx:a.eval x=v) {k e:TypeId} (ht:P.underlying t=some (.map k e)) (hk:P.underlying k=some (.int .i64))
    (W:World) (es:Array MapEntry) (clock:Nat) (hm:a.eval m=.map (some W.heap.size)) (hn:Instr.findNow (.int .i64) (.int .i64 n) es.toList 0=some none)
    (h:wpList P ops Q rest a (W.alloc (.map (es.push { key:=.int .i64 n,val:=v,born:=clock }) (clock+1)))):wpList P ops Q (o :: rest) a (W.alloc (.map es clock)) :=
  wpList_plain hgd fun K hK=>by
    unfold Oper.wp execOp
    simp only [ho,hm,Sem.run_bind,BigFrame.eval_const,hx,zgO ht hk W es clock n v hn]
    rw [show a=a.put o.dst undef by rw [hd];rfl] at h
    exact hK _ _ h
end
def kindE (k:Int) (n:Int) (b:Bool) (f:Nat) (i:Nat):MapEntry:=⟨.int .i64 k,.agg #[.int .i64 n,.bool b,.func (.func f) #[] #[]],i⟩
def kindM:Array MapEntry := #[kindE 4 0 true 212 0,kindE 5 0 false 214 1,kindE 6 1 false 215 2,kindE 7 2 false 216 3,kindE 8 2 false 217 4]
theorem zfs (w:World):Calls Tryz.prog 176 #[] w (fun e w'=>e=.returned (.map (some w.heap.size))∧w'=w.alloc (.map kindM 5)):=by
  have hmm:=@run_makeMap Tryz.prog
  go_enter Tryz.func176,Tryz.ntmps176
  go_wp2_with (refine zk0 rfl rfl rfl _ rfl Tryz.underlying264 Tryz.underlying3 w _ _ rfl (by first|rfl|decide) ?_)
  go_ret
  exact ⟨rfl,rfl⟩
def idxOf {α:Type} (p:α→Bool):List α→Int→Int
  | [],_ => -1
  | x :: l,i=>if p x then i else idxOf p l (i+1)
theorem ze9 {α:Type} (p:α→Bool):∀ (l:List α) (i:Int),0≤i→(decide (0≤idxOf p l i))=l.any p
  | [],i,_=>rfl
  | x :: l,i,h=>by
    rw [idxOf,List.any_cons]
    cases hp:p x
    · simpa using ze9 p l (i+1) (by omega)
    · simp [h]
def AsksE (g:Nat) (lb:Array Value) (w0:World) (p:E→Bool) (l:List E) (css:Nat→List Value):Prop :=
  ∀ i q,l[i]?=some q→ ∀ W,Below w0.heap.size w0 W→Calls Tryz.prog g (#[.agg (css i).toArray]++lb) W (RBool (p q) W)
theorem zfK {S:Nat→Prop} {w0:World} {l:List E} {A:Option Addr} {c:Nat} {css:Nat→List Value} (h:LE S w0 l A c css) (p:E→Bool) (g:Nat) (lb:Array Value) (hf:AsksE g lb w0 p l css) (eg:∀ (args:Array Value) (w:World),(callFunc g args).run Tryz.prog w=.ok (.enter g args) w) (w:World) (hb:Below w0.heap.size w0 w) :
    Calls Tryz.prog 252 #[.slice A l.length c,.func (.func g) #[] lb] w (RInt (idxOf p l 0) w):=by
  have hbig:=h.big
  have hf':=Lib.hid hf;clear hf
  generalize hn:l.length=n at *
  go_enter Tryz.func252,Tryz.ntmps252
  go_wp2
  go_loopw [8] (fun i wr=>∃ k:Nat,k≤n∧i=.int .i64 k∧Hid (idxOf p (l.drop k) k=idxOf p l 0)∧Below w.heap.size w wr) (fun i _=>n - (intOf i).toNat)
  case atStart=>exact ⟨0,Nat.zero_le _,rfl,rfl,Below.refl _ _⟩
  case round =>
    obtain ⟨k,hk,rfl,hq,hbr⟩:=hrel
    by_cases hlt:k < n
    · obtain ⟨q,ad,hkq,rfl, -,hcell,hlenk⟩:=(h.mono (zag hb hbr)).at_ (k:=k) (by omega)
      have H:=Lib.hid (hf'.out k q hkq)
      have hbq:Below w0.heap.size w0 wr:=zag hb hbr
      have hQ:=Lib.hid (show idxOf p (l.drop k) k=if p q then (k:Int) else idxOf p (l.drop (k+1)) (k+1) by rw [ziH hkq,idxOf])
      clear hf' h
      cases hqq:p q
      · have hq':Hid (idxOf p (l.drop (k+1)) ((k+1:Nat):Int)=idxOf p l 0):=by
          show _=_
          rw [← hq.out,hQ.out,hqq];rfl
        clear hQ hq
        have hqq':=Lib.hid hqq;clear hqq
        go_wp2_with (first|(refine za4 rfl 31 _ rfl _ rfl (css k) hcell _ Tryz.underlying31 rfl 7 (by kernel_rfl) hlenk ?_)|((with_reducible refine (H.out _ hbq).mono ?_);rintro e w2 ⟨rfl,hb2⟩;rw [hqq'.out];have hb3:=zag hbr hb2))
        go_roundw
        case rel=>exact ⟨k+1,by omega,by go_num,hq',hb3⟩
        case measure=>simp [intOf];omega
      · have hres:Hid (idxOf p l 0=k):=by show idxOf p l 0=k;rw [← hq.out,hQ.out,hqq];rfl
        clear hQ hq
        have hqq':=Lib.hid hqq;clear hqq
        go_wp2_with (first|(refine za4 rfl 31 _ rfl _ rfl (css k) hcell _ Tryz.underlying31 rfl 7 (by kernel_rfl) hlenk ?_)|((with_reducible refine (H.out _ hbq).mono ?_);rintro e w2 ⟨rfl,hb2⟩;rw [hqq'.out];have hb3:=zag hbr hb2))
        go_ret
        exact ⟨by rw [hres.out];rfl,hb3⟩
    · have hres:Hid (idxOf p l 0 = -1):=by show idxOf p l 0 = -1;rw [← hq.out,List.drop_of_length_le (by omega),idxOf]
      clear h hf'
      go_wp2
      go_ret
      exact ⟨by rw [hres.out];rfl,hbr⟩
theorem zgo {S:Nat→Prop} {w0:World} {e:E} {cs:List Value} (h:RE S w0 e cs) (w:World):Calls Tryz.prog 174 #[.agg cs.toArray] w (RBool (bareV e.val) w):=by
  obtain ⟨A,c,css,f, -⟩:=h.open_
  obtain rfl:=f.eq
  clear f h
  unfold cellsE
  have v0:(valCells e.val)[0]?=some (.int .i64 e.val.kind):=rfl
  have v1:(valCells e.val)[1]?=some (.int .i64 e.val.n):=rfl
  have v2:(valCells e.val)[2]?=some (.float .f64 e.val.f):=rfl
  have v3:(valCells e.val)[3]?=some (.string e.val.s):=rfl
  go_enter Tryz.func174,Tryz.ntmps174
  go_wp2_with (refine zmk rfl 28 _ _ rfl rfl _ _ _ (by simp) (valCells e.val) rfl rfl 4 (by kernel_rfl) rfl rfl (zh9 _) ?_)
  all_goals (go_ret;exact ⟨zaC (by simp [bareV,emptyS,Op.floatEq, *]),zat (zat (Below.refl _ _) _) _⟩)
theorem zjx (b:Bool) (n:Nat):okN b n=true↔((65≤n∧n≤90)∨(97≤n∧n≤122)∨n=95)∨(b=false∧48≤n∧n≤57):=by
  simp [okN,letterN]
theorem zkl (s:ByteArray) (pos:Nat) (h:pos < s.size):s.data.toList.drop pos=s[pos] :: s.data.toList.drop (pos+1) :=
  List.drop_eq_getElem_cons (by simpa using h)
theorem zce (s:ByteArray) (w:World):Calls Tryz.prog 138 #[.string s] w (RBool (word s) w):=by
  go_enter Tryz.func138,Tryz.ntmps138
  go_wp2
  go_loopw [] (fun wr=>∃ pos:Nat,pos≤s.size∧wr=w.iter s pos∧Hid (allW (decide (pos=0)) (s.data.toList.drop pos)=allW true s.data.toList)) (fun wr=>s.size - wr.iterPos w.heap.size)
  case atStart=>exact ⟨0,Nat.zero_le _,rfl,rfl⟩
  case round =>
    obtain ⟨pos,hle,rfl,hq⟩:=hrel
    by_cases hp:pos < s.size
    · have hQ:=Lib.hid (show allW (decide (pos=0)) (s.data.toList.drop pos)=(okN (decide (pos=0)) s[pos].toNat&&allW false (s.data.toList.drop (pos+1))) by rw [zkl s pos hp,allW])
      by_cases hok:okN (decide (pos=0)) s[pos].toNat=true
      · have hres:Hid (allW (decide (pos+1=0)) (s.data.toList.drop (pos+1))=allW true s.data.toList):=by
          show _=_
          rw [← hq.out,hQ.out,hok];rfl
        have hn:=(zjx _ _).1 hok
        rw [decide_eq_false_iff_not] at hn
        have hnx:∀ ty,(Instr.next (.pointer (some ⟨w.heap.size,0,none⟩)) true ty).run Tryz.prog (w.iter s pos)=_:=fun ty=>run_next_ascii w s pos ty hp (by omega)
        clear hq hQ hok
        generalize s[pos].toNat=r at *
        go_wp2
        all_goals (try (exfalso;simp only [Bool.not_eq_true',Bool.not_eq_false',beq_iff_eq,beq_eq_false_iff_ne] at *;omega))
        all_goals exact ⟨⟨pos+1,by omega,rfl,hres⟩,by simp;omega⟩
      · have hres:Hid (word s=false):=by
          show _=_
          unfold word
          rw [← hq.out,hQ.out,(by simpa using hok:okN _ _=false)];rfl
        have hnx:∀ ty,(Instr.next (.pointer (some ⟨w.heap.size,0,none⟩)) true ty).run Tryz.prog (w.iter s pos)=_:=fun ty=>run_next_any w s pos ty hp
        have hr:¬ (((65≤(Utf8.decode s pos).1∧(Utf8.decode s pos).1≤90)∨(97≤(Utf8.decode s pos).1∧(Utf8.decode s pos).1≤122)∨(Utf8.decode s pos).1=95)∨(¬ pos=0∧48≤(Utf8.decode s pos).1∧(Utf8.decode s pos).1≤57)):=by
          rcases Nat.lt_or_ge s[pos].toNat 128 with hlt|hge
          · rw [decode_ascii s pos hp hlt]
            exact fun hh=>hok ((zjx _ _).2 (by rw [decide_eq_false_iff_not];exact hh))
          · have:=(decode_high s pos hp hge).1
            omega
        have hb2:Below w.heap.size w (w.iter s (pos+(Utf8.decode s pos).2)):=zat (Below.refl _ _) _
        clear hq hQ hok
        generalize (Utf8.decode s pos).2=wd at *
        generalize (Utf8.decode s pos).1=r at *
        go_wp2
        all_goals (try (exfalso;simp only [Bool.not_eq_true',Bool.not_eq_false',beq_iff_eq,beq_eq_false_iff_ne,decide_eq_true_eq,decide_eq_false_iff_not] at *;omega))
        all_goals (go_ret;exact ⟨zaC (by rw [hres.out]),by first|exact hb2|exact zat (Below.refl _ _) _⟩)
    · have hnx:∀ ty,(Instr.next (.pointer (some ⟨w.heap.size,0,none⟩)) true ty).run Tryz.prog (w.iter s pos)=_:=fun ty=>run_next_end w s pos ty hp
      have hres:Hid (word s=(!s.toList.isEmpty&&decide (s.size≤40))):=by
        show _=_
        unfold word
        rw [← hq.out,List.drop_of_length_le (by rw [Array.length_toList];show s.size≤_;omega),allW,Bool.true_and];rfl
      clear hq
      go_wp2
      · go_ret
        exact ⟨zaC (by rw [hres.out];simp [*]),zat (Below.refl _ _) _⟩
      · go_ret
        exact ⟨zaC (by
          rw [hres.out]
          have h40:((s.size:Int)≤40)↔s.size≤40:=by omega
          simp [h40]),zat (Below.refl _ _) _⟩
def kindV (n:Int):List Value :=
  if n=4 then [.int .i64 0,.bool true,.func (.func 212) #[] #[]] else if n=5 then [.int .i64 0,.bool false,.func (.func 214) #[] #[]] else if n=6 then [.int .i64 1,.bool false,.func (.func 215) #[] #[]]
  else if n=7 then [.int .i64 2,.bool false,.func (.func 216) #[] #[]] else if n=8 then [.int .i64 2,.bool false,.func (.func 217) #[] #[]] else [.int .i64 0,.bool false,.nilFunc]
theorem zf3 (n:Int):Instr.findNow (.int .i64) (.int .i64 n) kindM.toList 0=some (if n=4 then some (0,(kindE 4 0 true 212 0).val) else if n=5 then some (1,(kindE 5 0 false 214 1).val) else if n=6 then some (2,(kindE 6 1 false 215 2).val) else if n=7 then some (3,(kindE 7 2 false 216 3).val) else if n=8 then some (4,(kindE 8 2 false 217 4).val) else none):=by
  have h:∀ a b:Int,Instr.sameNow (.int .i64) (.int .i64 a) (.int .i64 b)=some (a==b):=fun a b=>by simp [Instr.sameNow]
  simp only [kindM,Instr.findNow,kindE,h]
  by_cases h4:n=4
  · simp [h4]
  by_cases h5:n=5
  · simp [h5]
  by_cases h6:n=6
  · simp [h6]
  by_cases h7:n=7
  · simp [h7]
  by_cases h8:n=8
  · simp [h8]
  simp [h4,h5,h6,h7,h8,beq_eq_false_iff_ne.2 h4,beq_eq_false_iff_ne.2 h5,beq_eq_false_iff_ne.2 h6,beq_eq_false_iff_ne.2 h7,beq_eq_false_iff_ne.2 h8]
theorem ze1 (w:World) (b:Nat) (hb:w.heap[b]?=some (.map kindM 5)) (n:Int):(Instr.lookup 264 (.map (some b)) (.int .i64 n) true).run Tryz.prog w=.ok (.tuple #[.agg (kindV n).toArray,.bool (arity n).isSome]) w:=by
  have hz:(zeroValue 263).run Tryz.prog w=.ok (.agg #[.int .i64 0,.bool false,.nilFunc]) w:=by kernel_rfl
  have hc:=MapKept.run_checkKey (P:=Tryz.prog) (w:=w) Tryz.underlying3 (k:=.int .i64 n) (show MapKept.IsKey (.int .i64) (.int .i64 n) from rfl) kindM.isEmpty 9999
  simp only [Instr.lookup,Sem.run_bind,run_underlying Tryz.underlying264,MapKept.run_getObj_map hb,Result.andThen_ok,Sem.run_pure,hc,MapKept.run_findKey Tryz.underlying3 (zf3 n)]
  unfold kindV arity
  by_cases h4:n=4
  · simp [h4,kindE]
  by_cases h5:n=5
  · simp [h5,kindE]
  by_cases h6:n=6
  · simp [h6,kindE]
  by_cases h7:n=7
  · simp [h7,kindE]
  by_cases h8:n=8
  · simp [h8,kindE]
  simp [h4,h5,h6,h7,h8,hz]
theorem zhf (n:Int):(kindV n).length=3:=by unfold kindV;(repeat' split)<;>rfl
theorem zhF (n:Int):(kindV n).toArray.all (·.oneCell')=true:=zgi (zhf n) fun j hj=>by
  unfold kindV
  match j,hj with
  | 0,_=>(repeat' split)<;>exact ⟨_,rfl,rfl⟩
  | 1,_=>(repeat' split)<;>exact ⟨_,rfl,rfl⟩
  | 2,_=>(repeat' split)<;>exact ⟨_,rfl,rfl⟩
theorem zeU (n:Nat) (e:E):term (n+1) e=match arity e.kind with
    | none=>false
    | some (k,named)=>e.kids.length==k&&bareV e.val&&(named==word e.name)&&(named || emptyS e.name)&&e.kids.all (term n):=by rw [term];rfl
theorem zjC {n:Int} {k:Nat} {b:Bool} (h:arity n=some (k,b)):(kindV n)[0]?=some (.int .i64 k)∧(kindV n)[1]?=some (.bool b):=by
  unfold arity at h;unfold kindV
  repeat' split at h
  all_goals first|(cases h;simp [*])|cases h
theorem zeH (e:E):term 0 e=false:=by rw [term]
theorem zfx (n:Nat) (hn:n≤50) (w0 w1:World) (B:Nat) (hB:w1.cell? ⟨B,0,none⟩=some (.int .i64 ((n:Int)+1))) (hb01:Below w0.heap.size w0 w1) {S:Nat→Prop} {q:E} {cs:List Value} (h:RE S w0 q cs)
    (ih:∀ w,Below w0.heap.size w0 w→Calls Tryz.prog 175 #[.agg cs.toArray,.int .i64 n] w (RBool (term n q) w)) (W:World) (hb:Below w1.heap.size w1 W) :
    Calls Tryz.prog 211 (#[.agg cs.toArray] ++ #[.pointer (some ⟨B,0,none⟩)]) W (RBool (!term n q) W):=by
  have hB':(W.alloc (.cells cs.toArray 31)).cell? ⟨B,0,none⟩=some (.int .i64 ((n:Int)+1)):=zac (zat (Below.refl _ _) _) (zac hb hB)
  have hcs:CellsAt (W.alloc (.cells cs.toArray 31)) ⟨W.heap.size,0,none⟩ 0 cs:=fun j u hj=>by
    rw [Nat.zero_add,show (⟨W.heap.size,0,none⟩:Addr).add j=⟨W.heap.size,j,none⟩ by unfold Addr.add;split<;>simp_all,zbd]
    exact hj
  have hlen:=h.length
  have H:=Lib.hid (ih (W.alloc (.cells cs.toArray 31)) (zat (zag hb01 hb) _))
  have hb2:Below W.heap.size W (W.alloc (.cells cs.toArray 31)):=zat (Below.refl _ _) _
  clear ih h
  show Calls Tryz.prog 211 #[.agg cs.toArray,.pointer (some ⟨B,0,none⟩)] W (RBool (!term n q) W)
  go_enter Tryz.func211,Tryz.ntmps211
  go_wp2_with (first|(refine za4 rfl 31 _ rfl _ rfl cs hcs _ Tryz.underlying31 rfl 7 (by kernel_rfl) hlen ?_)|(go_at_call 175;refine H.out.mono ?_;rintro e w2 ⟨rfl,hb3⟩;have hb4:=zag hb2 hb3))
  go_ret
  exact ⟨rfl,hb4⟩
theorem zdC {S:Nat→Prop} {w0:World} {l:List E} {A:Option Addr} {c:Nat} {css:Nat→List Value} (h:LE S w0 l A c css) (p:E→Bool) (g:Nat) (lb:Array Value) (hf:AsksE g lb w0 p l css) (eg:∀ (args:Array Value) (w:World),(callFunc g args).run Tryz.prog w=.ok (.enter g args) w) (w:World) (hb:Below w0.heap.size w0 w) :
    Calls Tryz.prog 210 #[.slice A l.length c,.func (.func g) #[] lb] w (RBool (l.any p) w):=by
  have H:=Lib.hid (zfK h p g lb hf eg w hb)
  have hany:=Lib.hid (ze9 p l 0 (Int.le_refl 0))
  clear hf eg
  go_enter Tryz.func210,Tryz.ntmps210
  go_wp2_with (go_at_call 252;refine H.out.mono ?_;rintro e w2 ⟨rfl,hb3⟩)
  go_ret
  exact ⟨zaC hany.out,hb3⟩
theorem zki (m:Nat):m≤50→ ∀ {S:Nat→Prop} {w0:World} {e:E} {cs:List Value},RE S w0 e cs→ ∀ w,Below w0.heap.size w0 w→Calls Tryz.prog 175 #[.agg cs.toArray,.int .i64 m] w (RBool (term m e) w):=by
  induction m using Nat.strongRecOn with
  | _ m ih =>
  intro hm S w0 e cs h w hb
  obtain ⟨A,c,css,f,hl⟩:=h.open_
  have hbig:=hl.big
  obtain rfl:=f.eq
  clear f
  have hih:=Lib.hid ih
  clear ih
  go_enter Tryz.func175,Tryz.ntmps175
  go_upto_region 1 with fail
  generalize hW:(w.alloc (Obj.cells (cellsE e A c).toArray 31)).alloc (Obj.cells #[Value.int IntKind.i64 ↑m] 3)=W
  have hkA:∀ j u,(cellsE e A c)[j]?=some u→W.cell? ⟨w.heap.size,j,none⟩=some u:=fun j u hj=>by
    rw [← hW]
    exact zac (zat (Below.refl _ _) _) (by rw [zbd];exact hj)
  have hk1:W.cell? ⟨w.heap.size+1,0,none⟩=some (.int .i64 (m:Int)):=by
    rw [← hW]
    have:=zbd (w.alloc (Obj.cells (cellsE e A c).toArray 31)) [.int .i64 (m:Int)] 3 (0,0) 0
    rw [World.size_alloc] at this
    exact this
  have hbW:Below w.heap.size w W:=by rw [← hW];exact zat (zat (Below.refl _ _) _) _
  clear hW
  go_cut [5,6] (fun s5 s6 wx=>∃ g,s5=.pointer (some ⟨g,0,none⟩)∧s6=.bool (arity e.kind).isSome∧wx.heap[g]?=some (.cells (kindV e.kind).toArray 263 (0,0))∧Below W.heap.size W wx)
  case first =>
    have hk0:=hkA 0 _ rfl
    clear hkA hk1
    have l1:=ze1 (W.alloc (.map kindM 5)).drew W.heap.size (heap_alloc_new W _) e.kind
    have l2:=fun o=>ze1 ((W.alloc (.map kindM 5)).alloc o).drew W.heap.size ((Below.heap_alloc _ o _ (by simp)).trans (heap_alloc_new W _)) e.kind
    have l3:=fun o=>ze1 ((W.alloc o).alloc (.map kindM 5)).drew (W.heap.size+1) (by have:=heap_alloc_new (W.alloc o) (.map kindM 5);rw [World.size_alloc] at this;exact this) e.kind
    have hkl:=zhf e.kind
    have s1:=zgW (P:=Tryz.prog) (W.alloc (.map kindM 5)) 263 #[.int .i64 0,.bool false,.nilFunc] (W.heap.size+1) (by simp) (kindV e.kind) 3 (by kernel_rfl) hkl rfl (zhF _)
    have s2:=zhL (P:=Tryz.prog) ((W.alloc (.cells #[.int .i64 0,.bool false,.nilFunc] 263)).alloc (.map kindM 5)).drew 263 #[.int .i64 0,.bool false,.nilFunc] W.heap.size ((Below.heap_alloc _ _ _ (by simp)).trans (heap_alloc_new W _)) (kindV e.kind) 3 (by kernel_rfl) hkl rfl (zhF _)
    have b1:Below W.heap.size W ((W.alloc (.map kindM 5)).alloc (.cells (kindV e.kind).toArray 263)).drew:=(zat (zat (Below.refl _ _) _) _).drew
    have b2:Below W.heap.size W (((W.alloc (.cells #[.int .i64 0,.bool false,.nilFunc] 263)).alloc (.map kindM 5)).drew.setRow W.heap.size (kindV e.kind).toArray):=zlA (zat (zat (Below.refl _ _) _) _).drew (Nat.le_refl _) _
    have k2:=zac b2 hk0
    have e1:((W.alloc (.map kindM 5)).alloc (.cells (kindV e.kind).toArray 263)).drew.heap[W.heap.size+1]?=some (.cells (kindV e.kind).toArray 263 (0,0)):=by
      have:=heap_alloc_new (W.alloc (.map kindM 5)) (.cells (kindV e.kind).toArray 263)
      rw [World.size_alloc] at this
      exact this
    have e2:(((W.alloc (.cells #[.int .i64 0,.bool false,.nilFunc] 263)).alloc (.map kindM 5)).drew.setRow W.heap.size (kindV e.kind).toArray).heap[W.heap.size]?=some (.cells (kindV e.kind).toArray 263 (0,0)) :=
      zi1 _ _ _ _ _ ((Below.heap_alloc _ _ _ (by simp)).trans (heap_alloc_new W (.cells #[.int .i64 0,.bool false,.nilFunc] 263)))
    have e1':=Lib.hid e1
    have e2':=Lib.hid e2
    clear e1 e2
    go_region_held3 (fun w'=>w'.cell? ⟨w.heap.size,0,none⟩=some (.int .i64 e.kind)) (first|go_keep|exact k2)
      (first|(go_at_call 176;refine (zfs _).mono ?_;rintro e w' ⟨rfl,rfl⟩))
    all_goals (go_wp2_with fail;go_meet;first|exact ⟨_,rfl,rfl,e1'.out,b1⟩|exact ⟨_,rfl,rfl,e2'.out,b2⟩)
  case rest =>
    obtain ⟨g,rfl,rfl,hg,hbx⟩:=hcut
    have hbw:Below w.heap.size w wc:=zag hbW hbx
    have kA:=fun j u hj=>zac hbx (hkA j u hj)
    have kn:=zac hbx hk1
    have a0:=kA 0 _ rfl;have a1:=kA 1 _ rfl;have a2:=kA 2 _ rfl;have a3:=kA 3 _ rfl;have a4:=kA 4 _ rfl;have a5:=kA 5 _ rfl;have a6:=kA 6 _ rfl
    clear hkA hk1 kA
    rcases har:arity e.kind with _ | ⟨k,named⟩
    · have hres:Hid (term m e=false):=by
        show _=_
        cases m with
        | zero=>exact zeH e
        | succ n=>rw [zeU n e,har]
      clear har hg
      simp only [Option.isSome_none]
      go_wp2_with fail
      refine zbr (fun w'=>Below w.heap.size w w') (by kernel_rfl) (by kernel_rfl) hbw.drew ?_
      repeat (first|(refine zcb (by rfl) ?_;simp only [Act.put,List.setIfInBounds_toArray,List.set_cons_zero,List.set_cons_succ])|(refine zch (v:=?_) (by rfl) ?_ ?_;rotate_left;(intro w' hw';go_simp;with_reducible rfl);simp only [Act.put,List.setIfInBounds_toArray,List.set_cons_zero,List.set_cons_succ]))
      refine zb9 fun w' hw'=>?_
      go_wp2
      go_ret
      exact ⟨zaC hres.out.symm,hw'⟩
    · have g0:wc.cell? ⟨g,0,none⟩=some (.int .i64 k):=by rw [cell_of_row _ _ _ _ _ _ hg];simpa using (zjC har).1
      have g1:wc.cell? ⟨g,1,none⟩=some (.bool named):=by rw [cell_of_row _ _ _ _ _ _ hg];simpa using (zjC har).2
      have hbare:=Lib.hid (zgo h)
      clear hg
      simp only [Option.isSome_some]
      cases m with
      | zero =>
        have hres:=Lib.hid (zeH e)
        clear har
        rw [show ((0:Nat):Int)=0 from rfl] at kn
        go_wp2_with fail
        refine zbr (fun w'=>w'.cell? ⟨w.heap.size,0,none⟩=some (.int .i64 e.kind)∧w'.cell? ⟨w.heap.size,1,none⟩=some (.string e.name)∧w'.cell? ⟨w.heap.size,2,none⟩=some (.int .i64 e.val.kind)∧w'.cell? ⟨w.heap.size,3,none⟩=some (.int .i64 e.val.n)∧w'.cell? ⟨w.heap.size,4,none⟩=some (.float .f64 e.val.f)∧w'.cell? ⟨w.heap.size,5,none⟩=some (.string e.val.s)∧w'.cell? ⟨w.heap.size,6,none⟩=some (.slice A e.kids.length c)∧w'.cell? ⟨w.heap.size+1,0,none⟩=some (.int .i64 0)∧w'.cell? ⟨g,0,none⟩=some (.int .i64 k)∧w'.cell? ⟨g,1,none⟩=some (.bool named)∧Below w.heap.size w w') (by kernel_rfl) (by kernel_rfl) ⟨a0,a1,a2,a3,a4,a5,a6,kn,g0,g1,hbw.drew⟩ ?_
        repeat (first|(refine zcb (by rfl) ?_;simp only [Act.put,List.setIfInBounds_toArray,List.set_cons_zero,List.set_cons_succ])|(refine zch (v:=?_) (by rfl) ?_ ?_;rotate_left;(intro w' hw';go_simp;with_reducible rfl);simp only [Act.put,List.setIfInBounds_toArray,List.set_cons_zero,List.set_cons_succ]))
        refine zb9 fun w' hw'=>?_
        go_wp2
        go_ret
        exact ⟨zaC hres.out.symm,hw'.2.2.2.2.2.2.2.2.2.2⟩
      | succ n =>
        have ts:=Lib.hid (zeU n e)
        have nz:(((n+1:Nat):Int)==0)=false:=by rw [beq_eq_false_iff_ne];omega
        by_cases hk:e.kids.length=k
        · subst hk
          have hkb:((e.kids.length:Int) != (e.kids.length:Int))=false:=by rw [bne_eq_false_iff_eq]
          cases hbv':bareV e.val
          · have hres:Hid (term (n+1) e=false):=by show _=_;rw [ts.out,har];simp [hbv']
            have hbv:=Lib.hid hbv'
            clear ts har hbv'
            go_wp2_with fail
            refine zbr (fun w'=>w'.cell? ⟨w.heap.size,0,none⟩=some (.int .i64 e.kind)∧w'.cell? ⟨w.heap.size,1,none⟩=some (.string e.name)∧w'.cell? ⟨w.heap.size,2,none⟩=some (.int .i64 e.val.kind)∧w'.cell? ⟨w.heap.size,3,none⟩=some (.int .i64 e.val.n)∧w'.cell? ⟨w.heap.size,4,none⟩=some (.float .f64 e.val.f)∧w'.cell? ⟨w.heap.size,5,none⟩=some (.string e.val.s)∧w'.cell? ⟨w.heap.size,6,none⟩=some (.slice A e.kids.length c)∧w'.cell? ⟨w.heap.size+1,0,none⟩=some (.int .i64 ((n+1:Nat):Int))∧w'.cell? ⟨g,0,none⟩=some (.int .i64 e.kids.length)∧w'.cell? ⟨g,1,none⟩=some (.bool named)∧Below w.heap.size w w') (by kernel_rfl) (by kernel_rfl) ⟨a0,a1,a2,a3,a4,a5,a6,kn,g0,g1,hbw.drew⟩ ?_
            repeat (first|(refine zcb (by rfl) ?_;simp only [Act.put,List.setIfInBounds_toArray,List.set_cons_zero,List.set_cons_succ])|(refine zbn (.bool false) 174 (.agg (cellsE e A c).toArray) (by rfl) rfl rfl (enters Tryz.func174 rfl rfl) (fun w' hw'=>?_) ?_;(refine (hbare.out w').mono ?_;rintro e2 w2 ⟨rfl,hb2⟩;obtain ⟨s0,s1,s2,s3,s4,s5,s6,s7,s8,s9,s10⟩:=hw';exact ⟨by rw [hbv.out],⟨zac hb2 s0,zac hb2 s1,zac hb2 s2,zac hb2 s3,zac hb2 s4,zac hb2 s5,zac hb2 s6,zac hb2 s7,zac hb2 s8,zac hb2 s9,zag s10 hb2⟩⟩);simp only [Act.put,List.setIfInBounds_toArray,List.set_cons_zero,List.set_cons_succ])|(refine zch (v:=?_) (by rfl) ?_ ?_;rotate_left;(intro w' hw';go_simp;with_reducible rfl);simp only [Act.put,List.setIfInBounds_toArray,List.set_cons_zero,List.set_cons_succ]))
            refine zb9 fun w' hw'=>?_
            go_wp2
            go_ret
            exact ⟨zaC hres.out.symm,hw'.2.2.2.2.2.2.2.2.2.2⟩
          · have hbv:=Lib.hid hbv'
            cases hwv':word e.name<;>cases named
            · have hres:Hid (term (n+1) e=(emptyS e.name&&e.kids.all (term n))):=by show _=_;rw [ts.out,har];simp [hwv',hbv']
              have hwv:=Lib.hid hwv'
              clear ts har hwv' hbv'
              cases hem:emptyS e.name
              · have hne:(e.name.toList.isEmpty)=false:=hem
                have hres2:Hid (term (n+1) e=false):=by show _=_;rw [hres.out,hem];rfl
                clear hres
                have hres:=hres2
                clear hem
                go_wp2_with fail
                refine zbr (fun w'=>w'.cell? ⟨w.heap.size,0,none⟩=some (.int .i64 e.kind)∧w'.cell? ⟨w.heap.size,1,none⟩=some (.string e.name)∧w'.cell? ⟨w.heap.size,2,none⟩=some (.int .i64 e.val.kind)∧w'.cell? ⟨w.heap.size,3,none⟩=some (.int .i64 e.val.n)∧w'.cell? ⟨w.heap.size,4,none⟩=some (.float .f64 e.val.f)∧w'.cell? ⟨w.heap.size,5,none⟩=some (.string e.val.s)∧w'.cell? ⟨w.heap.size,6,none⟩=some (.slice A e.kids.length c)∧w'.cell? ⟨w.heap.size+1,0,none⟩=some (.int .i64 ((n+1:Nat):Int))∧w'.cell? ⟨g,0,none⟩=some (.int .i64 e.kids.length)∧w'.cell? ⟨g,1,none⟩=some (.bool false)∧Below w.heap.size w w') (by kernel_rfl) (by kernel_rfl) ⟨a0,a1,a2,a3,a4,a5,a6,kn,g0,g1,hbw.drew⟩ ?_
                repeat (first|(refine zcb (by rfl) ?_;simp only [Act.put,List.setIfInBounds_toArray,List.set_cons_zero,List.set_cons_succ])|(refine zbn (.bool true) 174 (.agg (cellsE e A c).toArray) (by rfl) rfl rfl (enters Tryz.func174 rfl rfl) (fun w' hw'=>?_) ?_;(refine (hbare.out w').mono ?_;rintro e2 w2 ⟨rfl,hb2⟩;obtain ⟨s0,s1,s2,s3,s4,s5,s6,s7,s8,s9,s10⟩:=hw';exact ⟨by rw [hbv.out],⟨zac hb2 s0,zac hb2 s1,zac hb2 s2,zac hb2 s3,zac hb2 s4,zac hb2 s5,zac hb2 s6,zac hb2 s7,zac hb2 s8,zac hb2 s9,zag s10 hb2⟩⟩);simp only [Act.put,List.setIfInBounds_toArray,List.set_cons_zero,List.set_cons_succ])|(refine zbn (.bool false) 138 (.string e.name) (by rfl) rfl rfl (enters Tryz.func138 rfl rfl) (fun w' hw'=>?_) ?_;(refine (zce e.name w').mono ?_;rintro e2 w2 ⟨rfl,hb2⟩;obtain ⟨s0,s1,s2,s3,s4,s5,s6,s7,s8,s9,s10⟩:=hw';exact ⟨by rw [hwv.out],⟨zac hb2 s0,zac hb2 s1,zac hb2 s2,zac hb2 s3,zac hb2 s4,zac hb2 s5,zac hb2 s6,zac hb2 s7,zac hb2 s8,zac hb2 s9,zag s10 hb2⟩⟩);simp only [Act.put,List.setIfInBounds_toArray,List.set_cons_zero,List.set_cons_succ])|(refine zch (v:=?_) (by rfl) ?_ ?_;rotate_left;(intro w' hw';go_simp;with_reducible rfl);simp only [Act.put,List.setIfInBounds_toArray,List.set_cons_zero,List.set_cons_succ]))
                refine zb9 fun w' hw'=>?_
                go_wp2
                go_ret
                exact ⟨zaC hres.out.symm,hw'.2.2.2.2.2.2.2.2.2.2⟩
              · have hne:(e.name.toList.isEmpty)=true:=hem
                have hres2:Hid (term (n+1) e=e.kids.all (term n)):=by show _=_;rw [hres.out,hem];rfl
                clear hres
                have hres:=hres2
                clear hem
                go_wp2_with fail
                refine zbr (fun w'=>w'.cell? ⟨w.heap.size,0,none⟩=some (.int .i64 e.kind)∧w'.cell? ⟨w.heap.size,1,none⟩=some (.string e.name)∧w'.cell? ⟨w.heap.size,2,none⟩=some (.int .i64 e.val.kind)∧w'.cell? ⟨w.heap.size,3,none⟩=some (.int .i64 e.val.n)∧w'.cell? ⟨w.heap.size,4,none⟩=some (.float .f64 e.val.f)∧w'.cell? ⟨w.heap.size,5,none⟩=some (.string e.val.s)∧w'.cell? ⟨w.heap.size,6,none⟩=some (.slice A e.kids.length c)∧w'.cell? ⟨w.heap.size+1,0,none⟩=some (.int .i64 ((n+1:Nat):Int))∧w'.cell? ⟨g,0,none⟩=some (.int .i64 e.kids.length)∧w'.cell? ⟨g,1,none⟩=some (.bool false)∧Below w.heap.size w w') (by kernel_rfl) (by kernel_rfl) ⟨a0,a1,a2,a3,a4,a5,a6,kn,g0,g1,hbw.drew⟩ ?_
                repeat (first|(refine zcb (by rfl) ?_;simp only [Act.put,List.setIfInBounds_toArray,List.set_cons_zero,List.set_cons_succ])|(refine zbn (.bool true) 174 (.agg (cellsE e A c).toArray) (by rfl) rfl rfl (enters Tryz.func174 rfl rfl) (fun w' hw'=>?_) ?_;(refine (hbare.out w').mono ?_;rintro e2 w2 ⟨rfl,hb2⟩;obtain ⟨s0,s1,s2,s3,s4,s5,s6,s7,s8,s9,s10⟩:=hw';exact ⟨by rw [hbv.out],⟨zac hb2 s0,zac hb2 s1,zac hb2 s2,zac hb2 s3,zac hb2 s4,zac hb2 s5,zac hb2 s6,zac hb2 s7,zac hb2 s8,zac hb2 s9,zag s10 hb2⟩⟩);simp only [Act.put,List.setIfInBounds_toArray,List.set_cons_zero,List.set_cons_succ])|(refine zbn (.bool false) 138 (.string e.name) (by rfl) rfl rfl (enters Tryz.func138 rfl rfl) (fun w' hw'=>?_) ?_;(refine (zce e.name w').mono ?_;rintro e2 w2 ⟨rfl,hb2⟩;obtain ⟨s0,s1,s2,s3,s4,s5,s6,s7,s8,s9,s10⟩:=hw';exact ⟨by rw [hwv.out],⟨zac hb2 s0,zac hb2 s1,zac hb2 s2,zac hb2 s3,zac hb2 s4,zac hb2 s5,zac hb2 s6,zac hb2 s7,zac hb2 s8,zac hb2 s9,zag s10 hb2⟩⟩);simp only [Act.put,List.setIfInBounds_toArray,List.set_cons_zero,List.set_cons_succ])|(refine zch (v:=?_) (by rfl) ?_ ?_;rotate_left;(intro w' hw';go_simp;with_reducible rfl);simp only [Act.put,List.setIfInBounds_toArray,List.set_cons_zero,List.set_cons_succ]))
                refine zb9 fun w' hw'=>?_
                obtain ⟨s0,s1,s2,s3,s4,s5,s6,s7,s8,s9,s10⟩:=hw'
                have hlw:=hl.mono (zag hb s10)
                have hpast:Below w0.heap.size w0 w':=zag hb s10
                have HC:=Lib.hid (zdC hlw (fun q=>!term n q) 211 #[.pointer (some ⟨w.heap.size+1,0,none⟩)] (fun i q hq W hbW2=>zfx n (by omega) w' w' (w.heap.size+1) (by rw [s7];simp) (Below.refl _ _) (hlw.kid i q hq) (hih.out n (by omega) (by omega) (hlw.kid i q hq)) W hbW2) (enters Tryz.func211 rfl rfl) w' (Below.refl _ _))
                clear hl hlw hih hbare
                go_wp2_with (first|(go_at_call 210;refine HC.out.mono ?_;rintro e2 w2 ⟨rfl,hb2⟩))
                go_ret
                exact ⟨zaC (by rw [hres.out];simp [List.all_eq_not_any_not, *]),zag s10 hb2⟩
            · have hres:Hid (term (n+1) e=false):=by show _=_;rw [ts.out,har];simp [hwv']
              have hwv:=Lib.hid hwv'
              clear ts har hwv' hbv'
              go_wp2_with fail
              refine zbr (fun w'=>w'.cell? ⟨w.heap.size,0,none⟩=some (.int .i64 e.kind)∧w'.cell? ⟨w.heap.size,1,none⟩=some (.string e.name)∧w'.cell? ⟨w.heap.size,2,none⟩=some (.int .i64 e.val.kind)∧w'.cell? ⟨w.heap.size,3,none⟩=some (.int .i64 e.val.n)∧w'.cell? ⟨w.heap.size,4,none⟩=some (.float .f64 e.val.f)∧w'.cell? ⟨w.heap.size,5,none⟩=some (.string e.val.s)∧w'.cell? ⟨w.heap.size,6,none⟩=some (.slice A e.kids.length c)∧w'.cell? ⟨w.heap.size+1,0,none⟩=some (.int .i64 ((n+1:Nat):Int))∧w'.cell? ⟨g,0,none⟩=some (.int .i64 e.kids.length)∧w'.cell? ⟨g,1,none⟩=some (.bool true)∧Below w.heap.size w w') (by kernel_rfl) (by kernel_rfl) ⟨a0,a1,a2,a3,a4,a5,a6,kn,g0,g1,hbw.drew⟩ ?_
              repeat (first|(refine zcb (by rfl) ?_;simp only [Act.put,List.setIfInBounds_toArray,List.set_cons_zero,List.set_cons_succ])|(refine zbn (.bool true) 174 (.agg (cellsE e A c).toArray) (by rfl) rfl rfl (enters Tryz.func174 rfl rfl) (fun w' hw'=>?_) ?_;(refine (hbare.out w').mono ?_;rintro e2 w2 ⟨rfl,hb2⟩;obtain ⟨s0,s1,s2,s3,s4,s5,s6,s7,s8,s9,s10⟩:=hw';exact ⟨by rw [hbv.out],⟨zac hb2 s0,zac hb2 s1,zac hb2 s2,zac hb2 s3,zac hb2 s4,zac hb2 s5,zac hb2 s6,zac hb2 s7,zac hb2 s8,zac hb2 s9,zag s10 hb2⟩⟩);simp only [Act.put,List.setIfInBounds_toArray,List.set_cons_zero,List.set_cons_succ])|(refine zbn (.bool false) 138 (.string e.name) (by rfl) rfl rfl (enters Tryz.func138 rfl rfl) (fun w' hw'=>?_) ?_;(refine (zce e.name w').mono ?_;rintro e2 w2 ⟨rfl,hb2⟩;obtain ⟨s0,s1,s2,s3,s4,s5,s6,s7,s8,s9,s10⟩:=hw';exact ⟨by rw [hwv.out],⟨zac hb2 s0,zac hb2 s1,zac hb2 s2,zac hb2 s3,zac hb2 s4,zac hb2 s5,zac hb2 s6,zac hb2 s7,zac hb2 s8,zac hb2 s9,zag s10 hb2⟩⟩);simp only [Act.put,List.setIfInBounds_toArray,List.set_cons_zero,List.set_cons_succ])|(refine zch (v:=?_) (by rfl) ?_ ?_;rotate_left;(intro w' hw';go_simp;with_reducible rfl);simp only [Act.put,List.setIfInBounds_toArray,List.set_cons_zero,List.set_cons_succ]))
              refine zb9 fun w' hw'=>?_
              go_wp2
              go_ret
              exact ⟨zaC hres.out.symm,hw'.2.2.2.2.2.2.2.2.2.2⟩
            · have hres:Hid (term (n+1) e=false):=by show _=_;rw [ts.out,har];simp [hwv']
              have hwv:=Lib.hid hwv'
              clear ts har hwv' hbv'
              go_wp2_with fail
              refine zbr (fun w'=>w'.cell? ⟨w.heap.size,0,none⟩=some (.int .i64 e.kind)∧w'.cell? ⟨w.heap.size,1,none⟩=some (.string e.name)∧w'.cell? ⟨w.heap.size,2,none⟩=some (.int .i64 e.val.kind)∧w'.cell? ⟨w.heap.size,3,none⟩=some (.int .i64 e.val.n)∧w'.cell? ⟨w.heap.size,4,none⟩=some (.float .f64 e.val.f)∧w'.cell? ⟨w.heap.size,5,none⟩=some (.string e.val.s)∧w'.cell? ⟨w.heap.size,6,none⟩=some (.slice A e.kids.length c)∧w'.cell? ⟨w.heap.size+1,0,none⟩=some (.int .i64 ((n+1:Nat):Int))∧w'.cell? ⟨g,0,none⟩=some (.int .i64 e.kids.length)∧w'.cell? ⟨g,1,none⟩=some (.bool false)∧Below w.heap.size w w') (by kernel_rfl) (by kernel_rfl) ⟨a0,a1,a2,a3,a4,a5,a6,kn,g0,g1,hbw.drew⟩ ?_
              repeat (first|(refine zcb (by rfl) ?_;simp only [Act.put,List.setIfInBounds_toArray,List.set_cons_zero,List.set_cons_succ])|(refine zbn (.bool true) 174 (.agg (cellsE e A c).toArray) (by rfl) rfl rfl (enters Tryz.func174 rfl rfl) (fun w' hw'=>?_) ?_;(refine (hbare.out w').mono ?_;rintro e2 w2 ⟨rfl,hb2⟩;obtain ⟨s0,s1,s2,s3,s4,s5,s6,s7,s8,s9,s10⟩:=hw';exact ⟨by rw [hbv.out],⟨zac hb2 s0,zac hb2 s1,zac hb2 s2,zac hb2 s3,zac hb2 s4,zac hb2 s5,zac hb2 s6,zac hb2 s7,zac hb2 s8,zac hb2 s9,zag s10 hb2⟩⟩);simp only [Act.put,List.setIfInBounds_toArray,List.set_cons_zero,List.set_cons_succ])|(refine zbn (.bool true) 138 (.string e.name) (by rfl) rfl rfl (enters Tryz.func138 rfl rfl) (fun w' hw'=>?_) ?_;(refine (zce e.name w').mono ?_;rintro e2 w2 ⟨rfl,hb2⟩;obtain ⟨s0,s1,s2,s3,s4,s5,s6,s7,s8,s9,s10⟩:=hw';exact ⟨by rw [hwv.out],⟨zac hb2 s0,zac hb2 s1,zac hb2 s2,zac hb2 s3,zac hb2 s4,zac hb2 s5,zac hb2 s6,zac hb2 s7,zac hb2 s8,zac hb2 s9,zag s10 hb2⟩⟩);simp only [Act.put,List.setIfInBounds_toArray,List.set_cons_zero,List.set_cons_succ])|(refine zch (v:=?_) (by rfl) ?_ ?_;rotate_left;(intro w' hw';go_simp;with_reducible rfl);simp only [Act.put,List.setIfInBounds_toArray,List.set_cons_zero,List.set_cons_succ]))
              refine zb9 fun w' hw'=>?_
              go_wp2
              go_ret
              exact ⟨zaC hres.out.symm,hw'.2.2.2.2.2.2.2.2.2.2⟩
            · have hres:Hid (term (n+1) e=(true&&e.kids.all (term n))):=by show _=_;rw [ts.out,har];simp [hwv',hbv']
              have hwv:=Lib.hid hwv'
              clear ts har hwv' hbv'
              go_wp2_with fail
              refine zbr (fun w'=>w'.cell? ⟨w.heap.size,0,none⟩=some (.int .i64 e.kind)∧w'.cell? ⟨w.heap.size,1,none⟩=some (.string e.name)∧w'.cell? ⟨w.heap.size,2,none⟩=some (.int .i64 e.val.kind)∧w'.cell? ⟨w.heap.size,3,none⟩=some (.int .i64 e.val.n)∧w'.cell? ⟨w.heap.size,4,none⟩=some (.float .f64 e.val.f)∧w'.cell? ⟨w.heap.size,5,none⟩=some (.string e.val.s)∧w'.cell? ⟨w.heap.size,6,none⟩=some (.slice A e.kids.length c)∧w'.cell? ⟨w.heap.size+1,0,none⟩=some (.int .i64 ((n+1:Nat):Int))∧w'.cell? ⟨g,0,none⟩=some (.int .i64 e.kids.length)∧w'.cell? ⟨g,1,none⟩=some (.bool true)∧Below w.heap.size w w') (by kernel_rfl) (by kernel_rfl) ⟨a0,a1,a2,a3,a4,a5,a6,kn,g0,g1,hbw.drew⟩ ?_
              repeat (first|(refine zcb (by rfl) ?_;simp only [Act.put,List.setIfInBounds_toArray,List.set_cons_zero,List.set_cons_succ])|(refine zbn (.bool true) 174 (.agg (cellsE e A c).toArray) (by rfl) rfl rfl (enters Tryz.func174 rfl rfl) (fun w' hw'=>?_) ?_;(refine (hbare.out w').mono ?_;rintro e2 w2 ⟨rfl,hb2⟩;obtain ⟨s0,s1,s2,s3,s4,s5,s6,s7,s8,s9,s10⟩:=hw';exact ⟨by rw [hbv.out],⟨zac hb2 s0,zac hb2 s1,zac hb2 s2,zac hb2 s3,zac hb2 s4,zac hb2 s5,zac hb2 s6,zac hb2 s7,zac hb2 s8,zac hb2 s9,zag s10 hb2⟩⟩);simp only [Act.put,List.setIfInBounds_toArray,List.set_cons_zero,List.set_cons_succ])|(refine zbn (.bool true) 138 (.string e.name) (by rfl) rfl rfl (enters Tryz.func138 rfl rfl) (fun w' hw'=>?_) ?_;(refine (zce e.name w').mono ?_;rintro e2 w2 ⟨rfl,hb2⟩;obtain ⟨s0,s1,s2,s3,s4,s5,s6,s7,s8,s9,s10⟩:=hw';exact ⟨by rw [hwv.out],⟨zac hb2 s0,zac hb2 s1,zac hb2 s2,zac hb2 s3,zac hb2 s4,zac hb2 s5,zac hb2 s6,zac hb2 s7,zac hb2 s8,zac hb2 s9,zag s10 hb2⟩⟩);simp only [Act.put,List.setIfInBounds_toArray,List.set_cons_zero,List.set_cons_succ])|(refine zch (v:=?_) (by rfl) ?_ ?_;rotate_left;(intro w' hw';go_simp;with_reducible rfl);simp only [Act.put,List.setIfInBounds_toArray,List.set_cons_zero,List.set_cons_succ]))
              refine zb9 fun w' hw'=>?_
              obtain ⟨s0,s1,s2,s3,s4,s5,s6,s7,s8,s9,s10⟩:=hw'
              have hlw:=hl.mono (zag hb s10)
              have hpast:Below w0.heap.size w0 w':=zag hb s10
              have HC:=Lib.hid (zdC hlw (fun q=>!term n q) 211 #[.pointer (some ⟨w.heap.size+1,0,none⟩)] (fun i q hq W hbW2=>zfx n (by omega) w' w' (w.heap.size+1) (by rw [s7];simp) (Below.refl _ _) (hlw.kid i q hq) (hih.out n (by omega) (by omega) (hlw.kid i q hq)) W hbW2) (enters Tryz.func211 rfl rfl) w' (Below.refl _ _))
              clear hl hlw hih hbare
              go_wp2_with (first|(go_at_call 210;refine HC.out.mono ?_;rintro e2 w2 ⟨rfl,hb2⟩))
              go_ret
              exact ⟨zaC (by rw [hres.out];simp [List.all_eq_not_any_not, *]),zag s10 hb2⟩
        · have hres:Hid (term (n+1) e=false):=by show _=_;rw [ts.out,har];simp [hk]
          clear ts har
          have hkb:((e.kids.length:Int) != (k:Int))=true:=by rw [bne_iff_ne];omega
          go_wp2_with fail
          refine zbr (fun w'=>w'.cell? ⟨w.heap.size,0,none⟩=some (.int .i64 e.kind)∧w'.cell? ⟨w.heap.size,1,none⟩=some (.string e.name)∧w'.cell? ⟨w.heap.size,2,none⟩=some (.int .i64 e.val.kind)∧w'.cell? ⟨w.heap.size,3,none⟩=some (.int .i64 e.val.n)∧w'.cell? ⟨w.heap.size,4,none⟩=some (.float .f64 e.val.f)∧w'.cell? ⟨w.heap.size,5,none⟩=some (.string e.val.s)∧w'.cell? ⟨w.heap.size,6,none⟩=some (.slice A e.kids.length c)∧w'.cell? ⟨w.heap.size+1,0,none⟩=some (.int .i64 ((n+1:Nat):Int))∧w'.cell? ⟨g,0,none⟩=some (.int .i64 k)∧w'.cell? ⟨g,1,none⟩=some (.bool named)∧Below w.heap.size w w') (by kernel_rfl) (by kernel_rfl) ⟨a0,a1,a2,a3,a4,a5,a6,kn,g0,g1,hbw.drew⟩ ?_
          repeat (first|(refine zcb (by rfl) ?_;simp only [Act.put,List.setIfInBounds_toArray,List.set_cons_zero,List.set_cons_succ])|(refine zch (v:=?_) (by rfl) ?_ ?_;rotate_left;(intro w' hw';go_simp;with_reducible rfl);simp only [Act.put,List.setIfInBounds_toArray,List.set_cons_zero,List.set_cons_succ]))
          refine zb9 fun w' hw'=>?_
          go_wp2
          go_ret
          exact ⟨zaC hres.out.symm,hw'.2.2.2.2.2.2.2.2.2.2⟩
end Go.Proofs.YtiplihojmfbjkaaGreat
namespace Go.Proofs.YtiplihojmfbjkaaGreat
open Go.RowKit
section
variable {P:Program} {ops:Array Oper} {rest:List Oper} {o:Oper} {a:Act} {w:World} {Q:Exit→Act→World→Prop}
theorem zdY (hgd:Region.wanted o (yielded ops a.tmps)=true) (ty:TypeId) (x:Operand) (ho:o.op=.load ty x) (ad:Addr) (hx:a.eval x=.pointer (some ad)) (cs:List Value) (hc:CellsAt w ad 0 cs) (d:TypeDesc) (hu:P.underlying ty=some d)
    (hd:(match d with | .struct _ | .array _ _=>true|_=>false)=true) (n:Nat) (hi:(P.info? ty).map (·.size)=some n) (hn:cs.length=n) (h:wpList P ops Q rest (a.put o.dst (.agg cs.toArray)) w):wpList P ops Q (o :: rest) a w :=
  wpList_step fun K hK=>by
    rw [if_pos hgd]
    unfold Oper.wp execOp
    simp only [ho,hx,Instr.loadAt,Instr.sureAddr,Sem.run_bind,Sem.run_pure,Result.andThen_ok,zdQ ty ad cs hc d hu hd (hn ▸ hi)]
    exact hK _ _ h
end
theorem zdn {S:Nat→Prop} {w0:World} {e:E} {cs:List Value} (h:RE S w0 e cs):∀ w,Below w0.heap.size w0 w→Calls Tryz.prog 127 #[.agg cs.toArray] w (RBool (labelRight e) w):=by
  intro w hb
  obtain ⟨A,c,css,f,hl⟩:=h.open_
  have hlen:=h.length
  have hbig:=hl.big
  have hnew:=zho w cs 31 (0,0)
  have k0:=(zbd w cs 31 (0,0) 0).trans f.c0
  have k1:=(zbd w cs 31 (0,0) 1).trans f.c1
  have k6:=(zbd w cs 31 (0,0) 6).trans f.c6
  have hb1:Below w.heap.size w (w.alloc (.cells cs.toArray 31)):=zat (Below.refl _ _) _
  have HB:=Lib.hid (zgo h (w.alloc (.cells cs.toArray 31)))
  have HT:=Lib.hid (zki 50 (by omega) h _ (zag hb hb1))
  clear h f hl
  go_enter Tryz.func127,Tryz.ntmps127
  by_cases hk:e.kind=0
  · have hkb:(e.kind==0)=true:=by rw [beq_iff_eq];exact hk
    cases hem:emptyS e.name
    · have hne:(e.name.toList.isEmpty)=false:=hem
      have hres:Hid (labelRight e=false):=by show _=_;unfold labelRight;rw [if_pos hk,hem];rfl
      clear hk hem
      go_wp2
      go_ret
      exact ⟨zaC hres.out.symm,hb1⟩
    · have hne:(e.name.toList.isEmpty)=true:=hem
      have hres:Hid (labelRight e=(bareV e.val&&e.kids.isEmpty)):=by show _=_;unfold labelRight;rw [if_pos hk,hem];rfl
      clear hk hem
      cases hbv:bareV e.val
      · have hbh:=Lib.hid hbv
        have hres':Hid (labelRight e=false):=by show _=_;rw [hres.out,hbv];rfl
        clear hbv hres
        go_wp2_with (first|(refine zdY (by rfl) 31 _ rfl _ rfl cs hnew _ Tryz.underlying31 rfl 7 (by kernel_rfl) hlen ?_)|(go_at_call 174;refine HB.out.mono ?_;rintro e2 w2 ⟨rfl,hb2⟩;rw [hbh.out];have hb3:=zag hb1 hb2;have k6':=zac hb2 k6))
        go_ret
        exact ⟨zaC hres'.out.symm,hb3⟩
      · have hbh:=Lib.hid hbv
        have hres':Hid (labelRight e=((e.kids.length:Int)==0)):=by show _=_;rw [hres.out,hbv];cases e.kids<;>simp;omega
        clear hbv hres
        go_wp2_with (first|(refine zdY (by rfl) 31 _ rfl _ rfl cs hnew _ Tryz.underlying31 rfl 7 (by kernel_rfl) hlen ?_)|(go_at_call 174;refine HB.out.mono ?_;rintro e2 w2 ⟨rfl,hb2⟩;rw [hbh.out];have hb3:=zag hb1 hb2;have k6':=zac hb2 k6))
        go_ret
        exact ⟨zaC hres'.out.symm,hb3⟩
  · have hkb:(e.kind==0)=false:=by rw [beq_eq_false_iff_ne];exact hk
    have hres:Hid (labelRight e=term 50 e):=by show _=_;unfold labelRight;rw [if_neg hk]
    clear hk
    go_wp2_with (first|(refine za4 rfl 31 _ rfl _ rfl cs hnew _ Tryz.underlying31 rfl 7 (by kernel_rfl) hlen ?_)|(go_at_call 175;refine HT.out.mono ?_;rintro e2 w2 ⟨rfl,hb2⟩;have hb3:=zag hb1 hb2))
    go_ret
    exact ⟨zaC hres.out.symm,hb3⟩
end Go.Proofs.YtiplihojmfbjkaaGreat
