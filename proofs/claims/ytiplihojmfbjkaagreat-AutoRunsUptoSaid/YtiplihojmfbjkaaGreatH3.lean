/- label.Right,told in abstract values. -/
import Derived.Test.YtiplihojmfbjkaaGreatWS
import Derived.Test.YtiplihojmfbjkaaGreatB1
import Derived.Test.YtiplihojmfbjkaaGreatWE
import Derived.Laws.Strings
set_option maxRecDepth 100000
set_option maxHeartbeats 1000000
namespace Go.Proofs.YtiplihojmfbjkaaGreat
open Go.RowKit
abbrev RW (w:World) (e:E) (cs:List Value):Prop:=RE (fun k=>k < w.heap.size) w e cs
section
variable {S S':Nat→Nat→Prop} {w w':World}
theorem rd_v {x v:Value} (h:RD S w (.v x) v):v=x:=by cases h;rfl
theorem ziX:∀ (e:E) (cs:List Value),RDL S w (encE e) cs→RW w e cs:=E.ind fun e ih cs h=>by
  rw [zbw] at h
  obtain ⟨hl,hr⟩:=h
  have g:∀ (j:Nat) (x:Value),[D.v (.int .i64 e.kind),.v (.string e.name),.v (.int .i64 e.val.kind),.v (.int .i64 e.val.n),.v (.float .f64 e.val.f),.v (.string e.val.s),.sl (e.kids.map encE)][j]?=some (.v x)→cs[j]?=some x:=by
    intro j x hj
    obtain ⟨u,hu,hru⟩:=hr j _ hj
    rw [hu,rd_v hru]
  obtain ⟨u,hu,hru⟩:=hr 6 _ rfl
  generalize hrows:e.kids.map encE=rows at hru
  cases hru with
  | sl _ A c sz vs cap lim nil row val spot mem =>
    subst hrows
    rw [List.length_map] at hu cap lim
    have hsz:∀ i,i < e.kids.length→sz=7:=fun i hi=>by
      rw [← row i (encE e.kids[i]) (by rw [List.getElem?_map,List.getElem?_eq_getElem hi];rfl),zal]
    refine .mk e cs A c (fun i=>(List.range 7).map (vs i)) hl (g 0 _ rfl) (g 1 _ rfl) (g 2 _ rfl) (g 3 _ rfl) (g 4 _ rfl) (g 5 _ rfl) hu cap lim (fun h=>by simpa using nil h) (fun i q hq=>?_) (fun a ha h0=>?_) fun a ha i hi j u hj=>?_
    · refine ih q (List.mem_of_getElem? hq) _ ⟨by rw [zal];simp,fun j x hx=>?_⟩
      have hj:j < 7:=by have:=(List.getElem?_eq_some_iff.1 hx).1;rwa [zal] at this
      exact ⟨vs i j,by rw [List.getElem?_map,List.getElem?_range hj];rfl,val i (encE q) (by rw [List.getElem?_map,hq];rfl) j x hx⟩
    · have:=(mem a ha 0 (by simpa using h0) 0 (by rw [hsz 0 h0];omega)).2
      have hlt:=World.block_lt_of_cell? w ⟨a.block,_,none⟩ this
      exact hlt
    · have hj7:j < 7:=by have:=(List.getElem?_eq_some_iff.1 hj).1;simpa using this
      rw [List.getElem?_map,List.getElem?_range hj7] at hj
      injection hj with hj
      have hm:=(mem a ha i (by simpa using hi) j (by rw [hsz i hi];exact hj7)).2
      have hsp:=spot a ha (by simp;omega)
      obtain ⟨b,off,sp⟩:=a
      simp only at hsp hm
      subst hsp
      rw [Addr.add_lit,← hj,← hm,hsz i hi]
theorem zdH {P:Program} {f:FuncId} {args:List VV} {b:Bool} (he:Enters P f) (h:∀ S w vs,ArgsR S w args vs→Calls P f vs.toArray w (RBool b w)):CallsV P f args (.val (vB b)) :=
  ⟨he,fun S w vs ha _=>(h S w vs ha).mono fun _ _ hr=>⟨.bool b,S,hr.1,hr.2,fun _ _ hs=>hs,fun _ _ hs=>.inl hs,fun _ _=>.one (.v _ rfl)⟩⟩
theorem args1 {x:VV} {vs:List Value} (h:ArgsR S w [x] vs):∃ v,vs=[v]∧PV S w x v:=by
  obtain ⟨hl,hr⟩:=h
  match vs,hl with
  | [v],_=>exact ⟨v,rfl,hr 0 x v rfl rfl⟩
theorem args2 {x y:VV} {vs:List Value} (h:ArgsR S w [x,y] vs):∃ v u,vs=[v,u]∧PV S w x v∧PV S w y u:=by
  obtain ⟨hl,hr⟩:=h
  match vs,hl with
  | [v,u],_=>exact ⟨v,u,rfl,hr 0 x v rfl rfl,hr 1 y u rfl rfl⟩
theorem pv_v {x v:Value} (h:PV S w (.one (.d (.v x))) v):v=x:=zaw (h (fun _=>0) (fun _=>undef))
theorem zp0 {r:List (List D)} {v:Value} (h:PV S w (.one (.d (.sl r))) v):RD S w (.sl r) v:=by
  have:=h (fun _=>0) (fun _=>undef)
  cases this with|one h=>exact h
theorem zk5 {cs:List D} {v:Value} (h:PV S w (.dat cs) v):∃ us:List Value,v=.agg us.toArray∧RDL S w cs us:=by
  have:=h (fun _=>0) (fun _=>undef)
  cases this with|dat h2=>exact ⟨_,rfl,h2⟩
end
theorem znZ (e:E):CallsV Tryz.prog 127 [.dat (encE e)] (.val (vB (labelRight e))) :=
  zdH (enters Tryz.func127 rfl rfl) fun S w vs h=>by
    obtain ⟨v,rfl,h1⟩:=args1 h
    obtain ⟨us,rfl,h2⟩:=zk5 h1
    exact zdn (ziX e us h2) w (Below.refl _ _)
end Go.Proofs.YtiplihojmfbjkaaGreat
namespace Go.Proofs.YtiplihojmfbjkaaGreat
open Go.RowKit
def sameS (s q:ByteArray):Bool:=s.toList==q.toList
def kidE (e:E) (i:Nat):E:=e.kids[i]?.getD zE
def holdsN:Nat→List ByteArray→E→Bool
  | 0,_,_=>true
  | n+1,l,e =>
    if e.kind=4 then l.any (sameS e.name)
    else if e.kind=5 then decide (0 < l.length)
    else if e.kind=6 then !holdsN n l (kidE e 0)
    else if e.kind=7 then holdsN n l (kidE e 0)&&holdsN n l (kidE e 1)
    else if e.kind=8 then holdsN n l (kidE e 0) || holdsN n l (kidE e 1)
    else true
def hasL (l:List ByteArray) (e:E):Bool:=labelRight e&&(e.kind==0 || holdsN 50 l e)
def nodes:E→Nat
  | ⟨_,_,_,kids⟩=>1+(kids.attach.map (fun k=>nodes k.1)).sum
termination_by e=>SizeOf.sizeOf e
decreasing_by
  have:=List.sizeOf_lt_of_mem k.2
  simp only [E.mk.sizeOf_spec];omega
def count (e:E):Nat:=min 301 (nodes e)
end Go.Proofs.YtiplihojmfbjkaaGreat
namespace Go.Proofs.YtiplihojmfbjkaaGreat
open Go.RowKit
structure SL (S:Nat→Prop) (w:World) (l:List ByteArray) (A:Option Addr) (c:Nat):Prop where
  cap:l.length≤c
  big:l.length≤281474976710656
  nil:A=none→l=[]
  ok:∀ a,A=some a→0 < l.length→S a.block
  mem:∀ a,A=some a→ ∀ i s,l[i]?=some s→w.cell? (a.add i)=some (.string s)
theorem SL.mono {S:Nat→Prop} {w w1:World} {l:List ByteArray} {A:Option Addr} {c:Nat} (h:SL S w l A c) (hb:Below w.heap.size w w1):SL S w1 l A c :=
  ⟨h.cap,h.big,h.nil,h.ok,fun a ha i s hs=>zac hb (h.mem a ha i s hs)⟩
theorem SL.at_ {S:Nat→Prop} {w:World} {l:List ByteArray} {A:Option Addr} {c:Nat} (h:SL S w l A c) {k:Nat} (hk:k < l.length) :
    ∃ q ad,l[k]?=some q∧A=some ad∧w.cell? (ad.add k)=some (.string q):=by
  have hq:l[k]?=some l[k]:=List.getElem?_eq_getElem hk
  cases A with
  | none=>have:=h.nil rfl;subst this;simp at hk
  | some ad=>exact ⟨_,ad,hq,rfl,h.mem ad rfl k _ hq⟩
theorem zic {S:Nat→Prop} {w0:World} {l:List ByteArray} {A:Option Addr} {c:Nat} (h:SL S w0 l A c) (s:ByteArray) (w:World) (hb:Below w0.heap.size w0 w) :
    Calls Tryz.prog 253 #[.slice A l.length c,.string s] w (RInt (idxOf (sameS s) l 0) w):=by
  have hbig:=h.big
  have hlw:=h.mono hb
  clear h hb
  generalize hn:l.length=n at *
  go_enter Tryz.func253,Tryz.ntmps253
  go_wp2
  go_loopw [8] (fun i wr=>∃ k:Nat,k≤n∧i=.int .i64 k∧Hid (idxOf (sameS s) (l.drop k) k=idxOf (sameS s) l 0)∧wr=w) (fun i _=>n - (intOf i).toNat)
  case atStart=>exact ⟨0,Nat.zero_le _,rfl,rfl,rfl⟩
  case round =>
    obtain ⟨k,hk,rfl,hq,rfl⟩:=hrel
    by_cases hlt:k < n
    · obtain ⟨q,ad,hkq,rfl,hcell⟩:=hlw.at_ (k:=k) (by omega)
      have hQ:=Lib.hid (show idxOf (sameS s) (l.drop k) k=if sameS s q then (k:Int) else idxOf (sameS s) (l.drop (k+1)) (k+1) by rw [ziH hkq,idxOf])
      clear hlw
      cases hqq:sameS s q
      · have hq':Hid (idxOf (sameS s) (l.drop (k+1)) ((k+1:Nat):Int)=idxOf (sameS s) l 0):=by
          show _=_
          rw [← hq.out,hQ.out,hqq];rfl
        have hqq':(s.toList==q.toList)=false:=hqq
        clear hQ hq hqq
        go_wp2
        exact ⟨⟨k+1,by omega,by go_num,hq',trivial⟩,by simp [intOf];omega⟩
      · have hres:Hid (idxOf (sameS s) l 0=k):=by show _=_;rw [← hq.out,hQ.out,hqq];rfl
        have hqq':(s.toList==q.toList)=true:=hqq
        clear hQ hq hqq
        go_wp2
        go_ret
        exact ⟨by rw [hres.out];rfl,Below.refl _ _⟩
    · have hres:Hid (idxOf (sameS s) l 0 = -1):=by show _=_;rw [← hq.out,List.drop_of_length_le (by omega),idxOf]
      clear hlw hq
      go_wp2
      go_ret
      exact ⟨by rw [hres.out];rfl,Below.refl _ _⟩
theorem zf1 {S:Nat→Prop} {w0:World} {l:List ByteArray} {A:Option Addr} {c:Nat} (h:SL S w0 l A c) (s:ByteArray) (w:World) (hb:Below w0.heap.size w0 w) :
    Calls Tryz.prog 213 #[.slice A l.length c,.string s] w (RBool (l.any (sameS s)) w):=by
  have H:=Lib.hid (zic h s w hb)
  have hi:=ze9 (sameS s) l 0 (by omega)
  clear h
  generalize idxOf (sameS s) l 0=r at *
  go_enter Tryz.func213,Tryz.ntmps213
  go_wp2_with (go_at_call 253;refine H.out.mono ?_;rintro e2 w2 ⟨rfl,hb2⟩)
  go_ret
  exact ⟨rfl,hb2⟩
end Go.Proofs.YtiplihojmfbjkaaGreat
namespace Go.Proofs.YtiplihojmfbjkaaGreat
open Go.RowKit
theorem zkf (w:World) (b:Nat) (hb:w.heap[b]?=some (.map kindM 5)) (n:Int):(Instr.lookup 264 (.map (some b)) (.int .i64 n) false).run Tryz.prog w=.ok (.agg (kindV n).toArray) w:=by
  have hz:(zeroValue 263).run Tryz.prog w=.ok (.agg #[.int .i64 0,.bool false,.nilFunc]) w:=by kernel_rfl
  have hc:=MapKept.run_checkKey (P:=Tryz.prog) (w:=w) Tryz.underlying3 (k:=.int .i64 n) (show MapKept.IsKey (.int .i64) (.int .i64 n) from rfl) kindM.isEmpty 9999
  simp only [Instr.lookup,Sem.run_bind,run_underlying Tryz.underlying264,MapKept.run_getObj_map hb,Result.andThen_ok,Sem.run_pure,hc,MapKept.run_findKey Tryz.underlying3 (zf3 n)]
  unfold kindV
  by_cases h4:n=4
  · simp [h4,kindE]
  by_cases h5:n=5
  · simp [h5,kindE]
  by_cases h6:n=6
  · simp [h6,kindE]
  by_cases h7:n=7
  · simp [h7,kindE]
  by_cases h8:n=8
  · simp [h8,kindE]
  · simp [h4,h5,h6,h7,h8,hz]
theorem zcF {w0:World} {S:Nat→Prop} {e:E} {cs:List Value} (h:RE S w0 e cs) (v:Value) (b:Bool) (fid:Nat) (n:Int) (nm:Bool) (hkv:kindV e.kind=[.int .i64 n,.bool nm,.func (.func fid) #[] #[]]) (eg:∀ (args:Array Value) (w:World),(callFunc fid args).run Tryz.prog w=.ok (.enter fid args) w)
    (HK:∀ W,Below w0.heap.size w0 W→Calls Tryz.prog fid #[v,.agg cs.toArray] W (RBool b W)) (w:World) (hb:Below w0.heap.size w0 w):Calls Tryz.prog 128 #[v,.agg cs.toArray] w (RBool b w):=by
  obtain ⟨A,c,css,f,hl⟩:=h.open_
  obtain rfl:=f.eq
  clear f h hl
  have hHK:=Lib.hid (show ∀ W,Below w0.heap.size w0 W→Calls Tryz.prog fid #[v,.agg #[.int .i64 e.kind,.string e.name,.int .i64 e.val.kind,.int .i64 e.val.n,.float .f64 e.val.f,.string e.val.s,.slice A e.kids.length c]] W (RBool b W) from HK);clear HK
  go_enter Tryz.func128,Tryz.ntmps128
  go_upto_region 1 with fail
  generalize hW:(w.alloc (Obj.cells (cellsE e A c).toArray 31))=W
  have hkA:∀ j u,(cellsE e A c)[j]?=some u→W.cell? ⟨w.heap.size,j,none⟩=some u:=fun j u hj=>by
    rw [← hW,zbd];exact hj
  have hbW:Below w.heap.size w W:=by rw [← hW];exact zat (Below.refl _ _) _
  clear hW
  have hbM:Below w0.heap.size w0 (W.alloc (.map kindM 5)).drew:=zag hb (zag hbW (zat (Below.refl _ _) _).drew)
  have hbN:Below w.heap.size w (W.alloc (.map kindM 5)).drew:=(zag hbW (zat (Below.refl _ _) _).drew)
  have l1:=zkf (W.alloc (.map kindM 5)).drew W.heap.size (heap_alloc_new W _) e.kind
  rw [hkv] at l1
  have lf:∀ W:World,(Instr.field 263 (.agg #[.int .i64 n,.bool nm,.func (.func fid) #[] #[]]) 2).run Tryz.prog W=.ok (.func (.func fid) #[] #[]) W:=fun W=>by kernel_rfl
  have a0:=hkA 0 _ rfl;have a1:=hkA 1 _ rfl;have a2:=hkA 2 _ rfl;have a3:=hkA 3 _ rfl;have a4:=hkA 4 _ rfl;have a5:=hkA 5 _ rfl;have a6:=hkA 6 _ rfl
  have b0:=zac (zat (Below.refl _ _) (.map kindM 5)).drew a0;have b1:=zac (zat (Below.refl _ _) (.map kindM 5)).drew a1;have b2:=zac (zat (Below.refl _ _) (.map kindM 5)).drew a2;have b3:=zac (zat (Below.refl _ _) (.map kindM 5)).drew a3
  have b4:=zac (zat (Below.refl _ _) (.map kindM 5)).drew a4;have b5:=zac (zat (Below.refl _ _) (.map kindM 5)).drew a5;have b6:=zac (zat (Below.refl _ _) (.map kindM 5)).drew a6
  clear hkA
  go_region_held3 (fun w'=>w'.cell? ⟨w.heap.size,0,none⟩=some (.int .i64 e.kind)∧w'.cell? ⟨w.heap.size,1,none⟩=some (.string e.name)∧w'.cell? ⟨w.heap.size,2,none⟩=some (.int .i64 e.val.kind)∧w'.cell? ⟨w.heap.size,3,none⟩=some (.int .i64 e.val.n)∧w'.cell? ⟨w.heap.size,4,none⟩=some (.float .f64 e.val.f)∧w'.cell? ⟨w.heap.size,5,none⟩=some (.string e.val.s)∧w'.cell? ⟨w.heap.size,6,none⟩=some (.slice A e.kids.length c))
    (first|go_keep|exact ⟨zac hb2 b0,zac hb2 b1,zac hb2 b2,zac hb2 b3,zac hb2 b4,zac hb2 b5,zac hb2 b6⟩|exact ⟨b0,b1,b2,b3,b4,b5,b6⟩)
    (first|(go_at_call 176;refine (zfs _).mono ?_;rintro e2 w2 ⟨rfl,rfl⟩)|((with_reducible refine (hHK.out _ hbM).mono ?_);rintro e2 w2 ⟨rfl,hb2⟩;have hb3:=zag hbN hb2))
  all_goals (go_wp2;go_ret;exact ⟨rfl,hb3⟩)
theorem eg1:∀ (args:Array Value) (w:World),(callFunc 212 args).run Tryz.prog w=.ok (.enter 212 args) w:=enters Tryz.func212 rfl rfl
theorem eg2:∀ (args:Array Value) (w:World),(callFunc 214 args).run Tryz.prog w=.ok (.enter 214 args) w:=enters Tryz.func214 rfl rfl
theorem eg3:∀ (args:Array Value) (w:World),(callFunc 215 args).run Tryz.prog w=.ok (.enter 215 args) w:=enters Tryz.func215 rfl rfl
theorem eg4:∀ (args:Array Value) (w:World),(callFunc 216 args).run Tryz.prog w=.ok (.enter 216 args) w:=enters Tryz.func216 rfl rfl
theorem eg5:∀ (args:Array Value) (w:World),(callFunc 217 args).run Tryz.prog w=.ok (.enter 217 args) w:=enters Tryz.func217 rfl rfl
theorem zjf {w0:World} {S S':Nat→Prop} {e:E} {cs:List Value} (h:RE S w0 e cs) {l:List ByteArray} {A:Option Addr} {c:Nat} (hs:SL S' w0 l A c) (w:World) (hb:Below w0.heap.size w0 w) :
    Calls Tryz.prog 212 #[.slice A l.length c,.agg cs.toArray] w (RBool (l.any (sameS e.name)) w):=by
  obtain ⟨A',c',css,f,hl⟩:=h.open_
  have k1:=(zbd w cs 31 (0,0) 1).trans f.c1
  have hb1:Below w.heap.size w (w.alloc (.cells cs.toArray 31)):=zat (Below.refl _ _) _
  have H:=Lib.hid (zf1 hs e.name _ (zag hb hb1))
  clear h f hl hs
  go_enter Tryz.func212,Tryz.ntmps212
  go_wp2_with (go_at_call 213;refine H.out.mono ?_;rintro e2 w2 ⟨rfl,hb2⟩;have hb3:=zag hb1 hb2)
  go_ret
  exact ⟨rfl,hb3⟩
theorem zi5 {cs:List Value} {l:List ByteArray} {A:Option Addr} {c:Nat} (_hbig:l.length≤281474976710656) (w:World) :
    Calls Tryz.prog 214 #[.slice A l.length c,.agg cs.toArray] w (RBool (decide (0 < l.length)) w):=by
  have hb1:Below w.heap.size w (w.alloc (.cells cs.toArray 31)):=zat (Below.refl _ _) _
  generalize l.length=n at *
  go_enter Tryz.func214,Tryz.ntmps214
  go_wp2
  go_ret
  exact ⟨zaC (by simp),hb1⟩
theorem zje {w0:World} {S:Nat→Prop} {e:E} {cs:List Value} (h:RE S w0 e cs) (v:Value) (b:Bool) (h0:0 < e.kids.length) (H:∀ cs',RE S w0 (kidE e 0) cs'→ ∀ w,Below w0.heap.size w0 w→Calls Tryz.prog 128 #[v,.agg cs'.toArray] w (RBool b w))
    (w:World) (hb:Below w0.heap.size w0 w):Calls Tryz.prog 215 #[v,.agg cs.toArray] w (RBool (!b) w):=by
  obtain ⟨A,c,css,f,hl⟩:=h.open_
  have hbig:=hl.big
  have k6:=(zbd w cs 31 (0,0) 6).trans f.c6
  have hb1:Below w.heap.size w (w.alloc (.cells cs.toArray 31)):=zat (Below.refl _ _) _
  obtain ⟨q,ad,hq,rfl,hr, -, -⟩:=hl.at_ h0
  obtain ⟨q',ad', -,he, -,hcell,hlenk⟩:=(hl.mono (zag hb hb1)).at_ h0
  obtain rfl:ad=ad':=by simpa using he
  have hk:kidE e 0=q:=by unfold kidE;rw [hq];rfl
  rw [hk] at H
  have HH:=Lib.hid (H _ hr _ (zag hb hb1))
  clear h f hl hr H hq hk he
  generalize e.kids.length=n at *
  go_enter Tryz.func215,Tryz.ntmps215
  go_wp2_with (first|(refine za4 rfl 31 _ rfl _ rfl (css 0) hcell _ Tryz.underlying31 rfl 7 (by kernel_rfl) hlenk ?_)|(go_at_call 128;refine HH.out.mono ?_;rintro e2 w2 ⟨rfl,hb2⟩;have hb3:=zag hb1 hb2))
  go_ret
  exact ⟨zaC rfl,hb3⟩
end Go.Proofs.YtiplihojmfbjkaaGreat
namespace Go.Proofs.YtiplihojmfbjkaaGreat
open Go.RowKit
theorem zjt {w0:World} {S:Nat→Prop} {e:E} {cs:List Value} (h:RE S w0 e cs) (v:Value) (b b':Bool) (h1:1 < e.kids.length) (H:∀ cs',RE S w0 (kidE e 0) cs'→ ∀ w,Below w0.heap.size w0 w→Calls Tryz.prog 128 #[v,.agg cs'.toArray] w (RBool b w))
    (H':∀ cs',RE S w0 (kidE e 1) cs'→ ∀ w,Below w0.heap.size w0 w→Calls Tryz.prog 128 #[v,.agg cs'.toArray] w (RBool b' w))
    (w:World) (hb:Below w0.heap.size w0 w):Calls Tryz.prog 216 #[v,.agg cs.toArray] w (RBool (b&&b') w):=by
  obtain ⟨A,c,css,f,hl⟩:=h.open_
  have hbig:=hl.big
  have k6:=(zbd w cs 31 (0,0) 6).trans f.c6
  have hb1:Below w.heap.size w (w.alloc (.cells cs.toArray 31)):=zat (Below.refl _ _) _
  have h0:0 < e.kids.length:=by omega
  obtain ⟨q,ad,hq,rfl,hr, -, -⟩:=hl.at_ h0
  obtain ⟨q1,ad1,hq1,he1,hr1, -, -⟩:=hl.at_ h1
  obtain rfl:ad=ad1:=by simpa using he1
  obtain ⟨-,ad', -,he, -,hcell,hlenk⟩:=(hl.mono (zag hb hb1)).at_ h0
  obtain rfl:ad=ad':=by simpa using he
  obtain ⟨-,ad', -,he', -,hcell1,hlenk1⟩:=(hl.mono (zag hb hb1)).at_ h1
  obtain rfl:ad=ad':=by simpa using he'
  have hk:kidE e 0=q:=by unfold kidE;rw [hq];rfl
  have hk1:kidE e 1=q1:=by unfold kidE;rw [hq1];rfl
  rw [hk] at H
  rw [hk1] at H'
  have HH:=Lib.hid (H _ hr _ (zag hb hb1))
  have HH1:=Lib.hid (H' _ hr1)
  have hw2:=zag hb hb1
  clear h f hl hr hr1 H H' hq hq1 hk hk1 he he' he1
  generalize e.kids.length=n at *
  go_enter Tryz.func216,Tryz.ntmps216
  cases b
  · go_wp2_with (first|(refine za4 rfl 31 _ rfl _ rfl (css 0) hcell _ Tryz.underlying31 rfl 7 (by kernel_rfl) hlenk ?_)|(go_at_call 128;(with_reducible refine HH.out.mono ?_);rintro e2 w2 ⟨rfl,hb2⟩;have hb3:=zag hb1 hb2))
    go_ret
    exact ⟨zaC rfl,hb3⟩
  · go_wp2_with (first|(refine za4 rfl 31 _ rfl _ rfl (css 0) hcell _ Tryz.underlying31 rfl 7 (by kernel_rfl) hlenk ?_)|(refine zdY (by rfl) 31 _ rfl _ rfl (css 1) hcell2 _ Tryz.underlying31 rfl 7 (by kernel_rfl) hlenk1 ?_)|(go_at_call 128;(with_reducible refine HH.out.mono ?_);rintro e2 w2 ⟨rfl,hb2⟩;have hb3:=zag hb1 hb2;have k62:=zac hb2 k6;have hcell2:=hcell1.mono hb2;have H3:=Lib.hid (HH1.out w2 (zag hw2 hb2)))|(go_at_call 128;(with_reducible refine H3.out.mono ?_);rintro e3 w3 ⟨rfl,hb4⟩;have hb5:=zag hb3 hb4))
    go_ret
    exact ⟨zaC rfl,hb5⟩
theorem zi0 {w0:World} {S:Nat→Prop} {e:E} {cs:List Value} (h:RE S w0 e cs) (v:Value) (b b':Bool) (h1:1 < e.kids.length) (H:∀ cs',RE S w0 (kidE e 0) cs'→ ∀ w,Below w0.heap.size w0 w→Calls Tryz.prog 128 #[v,.agg cs'.toArray] w (RBool b w))
    (H':∀ cs',RE S w0 (kidE e 1) cs'→ ∀ w,Below w0.heap.size w0 w→Calls Tryz.prog 128 #[v,.agg cs'.toArray] w (RBool b' w))
    (w:World) (hb:Below w0.heap.size w0 w):Calls Tryz.prog 217 #[v,.agg cs.toArray] w (RBool (b || b') w):=by
  obtain ⟨A,c,css,f,hl⟩:=h.open_
  have hbig:=hl.big
  have k6:=(zbd w cs 31 (0,0) 6).trans f.c6
  have hb1:Below w.heap.size w (w.alloc (.cells cs.toArray 31)):=zat (Below.refl _ _) _
  have h0:0 < e.kids.length:=by omega
  obtain ⟨q,ad,hq,rfl,hr, -, -⟩:=hl.at_ h0
  obtain ⟨q1,ad1,hq1,he1,hr1, -, -⟩:=hl.at_ h1
  obtain rfl:ad=ad1:=by simpa using he1
  obtain ⟨-,ad', -,he, -,hcell,hlenk⟩:=(hl.mono (zag hb hb1)).at_ h0
  obtain rfl:ad=ad':=by simpa using he
  obtain ⟨-,ad', -,he', -,hcell1,hlenk1⟩:=(hl.mono (zag hb hb1)).at_ h1
  obtain rfl:ad=ad':=by simpa using he'
  have hk:kidE e 0=q:=by unfold kidE;rw [hq];rfl
  have hk1:kidE e 1=q1:=by unfold kidE;rw [hq1];rfl
  rw [hk] at H
  rw [hk1] at H'
  have HH:=Lib.hid (H _ hr _ (zag hb hb1))
  have HH1:=Lib.hid (H' _ hr1)
  have hw2:=zag hb hb1
  clear h f hl hr hr1 H H' hq hq1 hk hk1 he he' he1
  generalize e.kids.length=n at *
  go_enter Tryz.func217,Tryz.ntmps217
  cases b
  · go_wp2_with (first|(refine za4 rfl 31 _ rfl _ rfl (css 0) hcell _ Tryz.underlying31 rfl 7 (by kernel_rfl) hlenk ?_)|(refine zdY (by rfl) 31 _ rfl _ rfl (css 1) hcell2 _ Tryz.underlying31 rfl 7 (by kernel_rfl) hlenk1 ?_)|(go_at_call 128;(with_reducible refine HH.out.mono ?_);rintro e2 w2 ⟨rfl,hb2⟩;have hb3:=zag hb1 hb2;have k62:=zac hb2 k6;have hcell2:=hcell1.mono hb2;have H3:=Lib.hid (HH1.out w2 (zag hw2 hb2)))|(go_at_call 128;(with_reducible refine H3.out.mono ?_);rintro e3 w3 ⟨rfl,hb4⟩;have hb5:=zag hb3 hb4))
    go_ret
    exact ⟨zaC rfl,hb5⟩
  · go_wp2_with (first|(refine za4 rfl 31 _ rfl _ rfl (css 0) hcell _ Tryz.underlying31 rfl 7 (by kernel_rfl) hlenk ?_)|(go_at_call 128;(with_reducible refine HH.out.mono ?_);rintro e2 w2 ⟨rfl,hb2⟩;have hb3:=zag hb1 hb2))
    go_ret
    exact ⟨zaC rfl,hb3⟩
theorem zhO {n:Nat} {e:E} (h:term (n+1) e=true):∃ k b,arity e.kind=some (k,b)∧e.kids.length=k∧ ∀ q∈e.kids,term n q=true:=by
  rw [zeU] at h
  rcases har:arity e.kind with _ | ⟨k,b⟩
  · rw [har] at h;simp at h
  · rw [har] at h
    simp only [Bool.and_eq_true,List.all_eq_true,beq_iff_eq] at h
    exact ⟨k,b,rfl,h.1.1.1.1,h.2⟩
theorem zd2 {e:E} {i:Nat} (h:i < e.kids.length):kidE e i∈e.kids:=by
  unfold kidE;rw [List.getElem?_eq_getElem h];exact List.getElem_mem h
theorem zjr (n:Nat):∀ {S S':Nat→Prop} {w0:World} {e:E} {cs:List Value},RE S w0 e cs→term n e=true→ ∀ {l:List ByteArray} {A:Option Addr} {c:Nat},SL S' w0 l A c→ ∀ w,Below w0.heap.size w0 w→
    Calls Tryz.prog 128 #[.slice A l.length c,.agg cs.toArray] w (RBool (holdsN n l e) w):=by
  induction n with
  | zero=>intro S S' w0 e cs h ht;rw [zeH] at ht;cases ht
  | succ n ih =>
    intro S S' w0 e cs h ht l A c hs w hb
    obtain ⟨k,b,har,hk,hkt⟩:=zhO ht
    unfold holdsN
    unfold arity at har
    by_cases h4:e.kind=4
    · rw [if_pos h4]
      exact zcF h _ _ 212 0 true (by rw [h4];rfl) eg1 (fun W hW=>zjf h hs W hW) w hb
    by_cases h5:e.kind=5
    · rw [if_neg h4,if_pos h5]
      exact zcF h _ _ 214 0 false (by rw [h5];rfl) eg2 (fun W hW=>zi5 hs.big W) w hb
    by_cases h6:e.kind=6
    · rw [if_neg h4,if_neg h5,if_pos h6]
      rw [if_neg h4,if_neg h5,if_pos h6] at har
      have h0:0 < e.kids.length:=by simp at har;omega
      exact zcF h _ _ 215 1 false (by rw [h6];rfl) eg3 (fun W hW=>zje h _ _ h0 (fun cs' hr w hw=>ih hr (hkt _ (zd2 h0)) hs w hw) W hW) w hb
    by_cases h7:e.kind=7
    · rw [if_neg h4,if_neg h5,if_neg h6,if_pos h7]
      rw [if_neg h4,if_neg h5,if_neg h6,if_pos h7] at har
      have h0:1 < e.kids.length:=by simp at har;omega
      exact zcF h _ _ 216 2 false (by rw [h7];rfl) eg4 (fun W hW=>zjt h _ _ _ h0 (fun cs' hr w hw=>ih hr (hkt _ (zd2 (by omega))) hs w hw) (fun cs' hr w hw=>ih hr (hkt _ (zd2 h0)) hs w hw) W hW) w hb
    by_cases h8:e.kind=8
    · rw [if_neg h4,if_neg h5,if_neg h6,if_neg h7,if_pos h8]
      rw [if_neg h4,if_neg h5,if_neg h6,if_neg h7,if_pos h8] at har
      have h0:1 < e.kids.length:=by simp at har;omega
      exact zcF h _ _ 217 2 false (by rw [h8];rfl) eg5 (fun W hW=>zi0 h _ _ _ h0 (fun cs' hr w hw=>ih hr (hkt _ (zd2 (by omega))) hs w hw) (fun cs' hr w hw=>ih hr (hkt _ (zd2 h0)) hs w hw) W hW) w hb
    · rw [if_neg h4,if_neg h5,if_neg h6,if_neg h7,if_neg h8] at har
      cases har
end Go.Proofs.YtiplihojmfbjkaaGreat
