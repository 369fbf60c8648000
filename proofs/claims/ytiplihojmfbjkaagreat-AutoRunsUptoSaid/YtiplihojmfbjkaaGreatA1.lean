/- What memory says of expressions and patterns;laws of single operations over structs whose cells stay unopened. -/
import Derived.Test.YtiplihojmfbjkaaGreatProg
import Derived.Test.YtiplihojmfbjkaaGreatWE
import Derived.Lib.Hide
import Derived.Maps.AppendAt
import Derived.Deep.WholeRow
import Derived.Laws.Cover2
import Derived.Deep.RegionHeld3
import Derived.Deep.DeepCutAuto
import Derived.Deep.QuietTactic
import Derived.BigQuiet
namespace Go.Proofs.YtiplihojmfbjkaaGreat
open Go.RowKit
def CellsAt (w:World) (a:Addr) (k:Nat) (cs:List Value):Prop:=∀ j u,cs[j]?=some u→w.cell? (a.add (k+j))=some u
def valCells (v:Val):List Value:=[.int .i64 v.kind,.int .i64 v.n,.float .f64 v.f,.string v.s]
inductive RE (S:Nat→Prop) (w:World):E→List Value→Prop
  | mk (e:E) (cs:List Value) (A:Option Addr) (c:Nat) (css:Nat→List Value) (len:cs.length=7)
    (c0:cs[0]?=some (.int .i64 e.kind)) (c1:cs[1]?=some (.string e.name))
    (c2:cs[2]?=some (.int .i64 e.val.kind)) (c3:cs[3]?=some (.int .i64 e.val.n)) (c4:cs[4]?=some (.float .f64 e.val.f)) (c5:cs[5]?=some (.string e.val.s))
    (c6:cs[6]?=some (.slice A e.kids.length c)) (cap:e.kids.length≤c) (big:e.kids.length≤281474976710656) (nil:A=none→e.kids=[])
    (kid:∀ i q,e.kids[i]?=some q→RE S w q (css i)) (ok:∀ a,A=some a→0 < e.kids.length→S a.block)
    (mem:∀ a,A=some a→ ∀ i,i < e.kids.length→CellsAt w a (i * 7) (css i)):RE S w e cs
inductive RP (S:Nat→Prop) (w:World):Pt→List Value→Prop
  | mk (p:Pt) (cs:List Value) (A:Option Addr) (c:Nat) (css:Nat→List Value) (len:cs.length=20)
    (c0:cs[0]?=some (.int .i64 p.kind)) (c1:cs[1]?=some (.string p.var)) (c2:cs[2]?=some (.int .i64 p.dir))
    (hl:RE S w p.label ((cs.drop 3).take 7)) (hw:RE S w p.wher ((cs.drop 10).take 7))
    (c17:cs[17]?=some (.int .i64 p.min)) (c18:cs[18]?=some (.int .i64 p.max))
    (c19:cs[19]?=some (.slice A p.kids.length c)) (cap:p.kids.length≤c) (big:p.kids.length≤281474976710656) (nil:A=none→p.kids=[])
    (kid:∀ i q,p.kids[i]?=some q→RP S w q (css i)) (ok:∀ a,A=some a→0 < p.kids.length→S a.block)
    (mem:∀ a,A=some a→ ∀ i,i < p.kids.length→CellsAt w a (i * 20) (css i)):RP S w p cs
theorem zlZ (a:Addr) (i:Nat):(a.add i).block=a.block:=by unfold Addr.add;split<;>rfl
theorem CellsAt.move {w w1:World} {a:Addr} {k:Nat} {cs:List Value} (h:CellsAt w a k cs) (hm:∀ b v,b.block=a.block→w.cell? b=some v→w1.cell? b=some v):CellsAt w1 a k cs :=
  fun j u hj=>hm _ _ (zlZ _ _) (h j u hj)
theorem CellsAt.mono {w w1:World} {a:Addr} {k:Nat} {cs:List Value} (h:CellsAt w a k cs) (hb:Below w.heap.size w w1):CellsAt w1 a k cs :=
  h.move fun _ _ _ hc=>(hb.cell (World.block_lt_of_cell? w _ hc)).trans hc
theorem RE.move {S S':Nat→Prop} {w w1:World} (hS:∀ k,S k→S' k) (hm:∀ b v,S b.block→w.cell? b=some v→w1.cell? b=some v) {e:E} {cs:List Value} (h:RE S w e cs):RE S' w1 e cs:=by
  induction h with
  | mk e cs A c css len c0 c1 c2 c3 c4 c5 c6 cap big nil kid ok mem ih=>exact .mk e cs A c css len c0 c1 c2 c3 c4 c5 c6 cap big nil ih (fun a ha h0=>hS _ (ok a ha h0)) (fun a ha i hi=>(mem a ha i hi).move fun b v hb=>hm b v (hb ▸ ok a ha (Nat.lt_of_le_of_lt (Nat.zero_le _) hi)))
theorem RP.move {S S':Nat→Prop} {w w1:World} (hS:∀ k,S k→S' k) (hm:∀ b v,S b.block→w.cell? b=some v→w1.cell? b=some v) {p:Pt} {cs:List Value} (h:RP S w p cs):RP S' w1 p cs:=by
  induction h with
  | mk p cs A c css len c0 c1 c2 hl hw c17 c18 c19 cap big nil kid ok mem ih=>exact .mk p cs A c css len c0 c1 c2 (hl.move hS hm) (hw.move hS hm) c17 c18 c19 cap big nil ih (fun a ha h0=>hS _ (ok a ha h0)) (fun a ha i hi=>(mem a ha i hi).move fun b v hb=>hm b v (hb ▸ ok a ha (Nat.lt_of_le_of_lt (Nat.zero_le _) hi)))
section
variable {S S':Nat→Prop} {w w1:World} {e:E} {p:Pt} {cs:List Value}
theorem RE.mono (h:RE S w e cs) (hb:Below w.heap.size w w1):RE S w1 e cs:=h.move (fun _ hk=>hk) fun _ _ _ hc=>(hb.cell (World.block_lt_of_cell? w _ hc)).trans hc
theorem RP.mono (h:RP S w p cs) (hb:Below w.heap.size w w1):RP S w1 p cs:=h.move (fun _ hk=>hk) fun _ _ _ hc=>(hb.cell (World.block_lt_of_cell? w _ hc)).trans hc
theorem RE.length (h:RE S w e cs):cs.length=7:=by cases h;assumption
theorem RP.length (h:RP S w p cs):cs.length=20:=by cases h;assumption
end
section
variable {P:Program} {ops:Array Oper} {rest:List Oper} {o:Oper} {a:Act} {w:World} {Q:Exit→Act→World→Prop}
theorem zdQ (ty:TypeId) (ad:Addr) (cs:List Value) (hc:CellsAt w ad 0 cs) (d:TypeDesc) (hu:P.underlying ty=some d) (hd:(match d with | .struct _ | .array _ _=>true|_=>false)=true)
    (hi:(P.info? ty).map (·.size)=some cs.length):(loadVar ty ad).run P w=.ok (.agg cs.toArray) w:=by
  have hl:(loadCells ad cs.length).run P w=.ok cs.toArray w:=run_loadCells_list (P:=P) w ad cs (fun j v hv=>by have:=hc j v hv;rwa [Nat.zero_add] at this)
  cases hq:P.info? ty with
  | none=>simp [hq] at hi
  | some i =>
    have hs:i.size=cs.length:=by simpa [hq] using hi
    have hagg:(isAgg ty).run P w=.ok true w:=by
      unfold isAgg
      rw [Sem.run_bind,run_underlying hu w]
      cases d<;>simp_all
    simp [loadVar,Sem.run_bind,hagg,sizeOf,typeInfo,hq,hs,hl]
theorem za4 (hgd:o.guard=none) (ty:TypeId) (x:Operand) (ho:o.op=.load ty x) (ad:Addr) (hx:a.eval x=.pointer (some ad)) (cs:List Value) (hc:CellsAt w ad 0 cs) (d:TypeDesc) (hu:P.underlying ty=some d)
    (hd:(match d with | .struct _ | .array _ _=>true|_=>false)=true) (n:Nat) (hi:(P.info? ty).map (·.size)=some n) (hn:cs.length=n) (h:wpList P ops Q rest (a.put o.dst (.agg cs.toArray)) w):wpList P ops Q (o :: rest) a w :=
  wpList_plain hgd fun K hK=>by
    unfold Oper.wp execOp
    simp only [ho,hx,Instr.loadAt,Instr.sureAddr,Sem.run_bind,Sem.run_pure,Result.andThen_ok,zdQ ty ad cs hc d hu hd (hn ▸ hi)]
    exact hK _ _ h
end
theorem zhS (a:Addr) (i j:Nat):(a.add i).add j=a.add (i+j):=by
  unfold Addr.add;split<;>split<;>simp_all<;>omega
theorem CellsAt.at_ {w:World} {a:Addr} {k:Nat} {cs:List Value} (h:CellsAt w a k cs):CellsAt w (a.add k) 0 cs :=
  fun j u hj=>by rw [zhS,Nat.zero_add];exact h j u hj
structure LE (S:Nat→Prop) (w:World) (l:List E) (A:Option Addr) (c:Nat) (css:Nat→List Value):Prop where
  cap:l.length≤c
  big:l.length≤281474976710656
  nil:A=none→l=[]
  kid:∀ i q,l[i]?=some q→RE S w q (css i)
  ok:∀ a,A=some a→0 < l.length→S a.block
  mem:∀ a,A=some a→ ∀ i,i < l.length→CellsAt w a (i * 7) (css i)
structure LP (S:Nat→Prop) (w:World) (l:List Pt) (A:Option Addr) (c:Nat) (css:Nat→List Value):Prop where
  cap:l.length≤c
  big:l.length≤281474976710656
  nil:A=none→l=[]
  kid:∀ i q,l[i]?=some q→RP S w q (css i)
  ok:∀ a,A=some a→0 < l.length→S a.block
  mem:∀ a,A=some a→ ∀ i,i < l.length→CellsAt w a (i * 20) (css i)
theorem LE.mono {S:Nat→Prop} {w w1:World} {l:List E} {A:Option Addr} {c:Nat} {css:Nat→List Value} (h:LE S w l A c css) (hb:Below w.heap.size w w1):LE S w1 l A c css :=
  ⟨h.cap,h.big,h.nil,fun i q hq=>(h.kid i q hq).mono hb,h.ok,fun a ha i hi=>(h.mem a ha i hi).mono hb⟩
theorem LP.mono {S:Nat→Prop} {w w1:World} {l:List Pt} {A:Option Addr} {c:Nat} {css:Nat→List Value} (h:LP S w l A c css) (hb:Below w.heap.size w w1):LP S w1 l A c css :=
  ⟨h.cap,h.big,h.nil,fun i q hq=>(h.kid i q hq).mono hb,h.ok,fun a ha i hi=>(h.mem a ha i hi).mono hb⟩
theorem LE.at_ {S:Nat→Prop} {w:World} {l:List E} {A:Option Addr} {c:Nat} {css:Nat→List Value} (h:LE S w l A c css) {k:Nat} (hk:k < l.length) :
    ∃ q ad,l[k]?=some q∧A=some ad∧RE S w q (css k)∧CellsAt w (ad.add (k * 7)) 0 (css k)∧(css k).length=7:=by
  have hq:l[k]?=some l[k]:=List.getElem?_eq_getElem hk
  cases A with
  | none=>have:=h.nil rfl;subst this;simp at hk
  | some ad=>exact ⟨_,ad,hq,rfl,h.kid k _ hq,(h.mem ad rfl k hk).at_,(h.kid k _ hq).length⟩
theorem LP.at_ {S:Nat→Prop} {w:World} {l:List Pt} {A:Option Addr} {c:Nat} {css:Nat→List Value} (h:LP S w l A c css) {k:Nat} (hk:k < l.length) :
    ∃ q ad,l[k]?=some q∧A=some ad∧RP S w q (css k)∧CellsAt w (ad.add (k * 20)) 0 (css k)∧(css k).length=20:=by
  have hq:l[k]?=some l[k]:=List.getElem?_eq_getElem hk
  cases A with
  | none=>have:=h.nil rfl;subst this;simp at hk
  | some ad=>exact ⟨_,ad,hq,rfl,h.kid k _ hq,(h.mem ad rfl k hk).at_,(h.kid k _ hq).length⟩
structure FE (e:E) (cs:List Value) (A:Option Addr) (c:Nat):Prop where
  len:cs.length=7
  c0:cs[0]?=some (.int .i64 e.kind)
  c1:cs[1]?=some (.string e.name)
  c2:cs[2]?=some (.int .i64 e.val.kind)
  c3:cs[3]?=some (.int .i64 e.val.n)
  c4:cs[4]?=some (.float .f64 e.val.f)
  c5:cs[5]?=some (.string e.val.s)
  c6:cs[6]?=some (.slice A e.kids.length c)
structure FP (p:Pt) (cs:List Value) (A:Option Addr) (c:Nat):Prop where
  len:cs.length=20
  c0:cs[0]?=some (.int .i64 p.kind)
  c1:cs[1]?=some (.string p.var)
  c2:cs[2]?=some (.int .i64 p.dir)
  c17:cs[17]?=some (.int .i64 p.min)
  c18:cs[18]?=some (.int .i64 p.max)
  c19:cs[19]?=some (.slice A p.kids.length c)
def cellsE (e:E) (A:Option Addr) (c:Nat):List Value :=
  [.int .i64 e.kind,.string e.name,.int .i64 e.val.kind,.int .i64 e.val.n,.float .f64 e.val.f,.string e.val.s,.slice A e.kids.length c]
theorem FE.eq {e:E} {cs:List Value} {A:Option Addr} {c:Nat} (h:FE e cs A c):cs=cellsE e A c:=by
  obtain ⟨len,c0,c1,c2,c3,c4,c5,c6⟩:=h
  match cs,len with
  | [x0,x1,x2,x3,x4,x5,x6],_ =>
    simp only [List.getElem?_cons_zero,List.getElem?_cons_succ,Option.some.injEq] at c0 c1 c2 c3 c4 c5 c6
    rw [c0,c1,c2,c3,c4,c5,c6];rfl
theorem RE.open_ {S:Nat→Prop} {w:World} {e:E} {cs:List Value} (h:RE S w e cs):∃ A c css,FE e cs A c∧LE S w e.kids A c css:=by
  cases h with
  | mk _ _ A c css len c0 c1 c2 c3 c4 c5 c6 cap big nil kid ok mem=>exact ⟨_,_,_,⟨len,c0,c1,c2,c3,c4,c5,c6⟩,⟨cap,big,nil,kid,ok,mem⟩⟩
theorem RP.open_ {S:Nat→Prop} {w:World} {p:Pt} {cs:List Value} (h:RP S w p cs):∃ A c css,FP p cs A c∧LP S w p.kids A c css∧RE S w p.label ((cs.drop 3).take 7)∧RE S w p.wher ((cs.drop 10).take 7):=by
  cases h with
  | mk _ _ A c css len c0 c1 c2 hl hw c17 c18 c19 cap big nil kid ok mem=>exact ⟨_,_,_,⟨len,c0,c1,c2,c17,c18,c19⟩,⟨cap,big,nil,kid,ok,mem⟩,hl,hw⟩
theorem zgi {cs:List Value} {n:Nat} (hl:cs.length=n) (h:∀ j,j < n→ ∃ u,cs[j]?=some u∧u.oneCell'=true):cs.toArray.all (·.oneCell')=true:=by
  simp only [List.all_toArray,List.all_eq_true]
  intro u hu
  obtain ⟨j,hj,rfl⟩:=List.mem_iff_getElem.1 hu
  obtain ⟨u,h1,h2⟩:=h j (by omega)
  rw [List.getElem?_eq_getElem hj] at h1
  injection h1 with h1
  rw [h1];exact h2
theorem FE.cell {e:E} {cs:List Value} {A:Option Addr} {c:Nat} (h:FE e cs A c):∀ j,j < 7→ ∃ u,cs[j]?=some u∧u.oneCell'=true
  | 0,_=>⟨_,h.c0,rfl⟩|1,_=>⟨_,h.c1,rfl⟩|2,_=>⟨_,h.c2,rfl⟩|3,_=>⟨_,h.c3,rfl⟩|4,_=>⟨_,h.c4,rfl⟩|5,_=>⟨_,h.c5,rfl⟩|6,_=>⟨_,h.c6,rfl⟩
theorem RE.one {S:Nat→Prop} {w:World} {e:E} {cs:List Value} (h:RE S w e cs):cs.toArray.all (·.oneCell')=true:=by
  obtain ⟨A,c,_,f,_⟩:=h.open_
  exact zgi f.len f.cell
theorem zh9 (v:Val):(valCells v).toArray.all (·.oneCell')=true:=zgi (n:=4) rfl fun
  | 0,_=>⟨_,rfl,rfl⟩|1,_=>⟨_,rfl,rfl⟩|2,_=>⟨_,rfl,rfl⟩|3,_=>⟨_,rfl,rfl⟩
theorem ziA {cs:List Value} {o n:Nat} {j:Nat} {u:Value} (hj:j < n) (h:((cs.drop o).take n)[j]?=some u):cs[o+j]?=some u:=by
  rw [List.getElem?_take,if_pos hj,List.getElem?_drop] at h
  exact h
theorem RP.cell {S:Nat→Prop} {w:World} {p:Pt} {cs:List Value} (h:RP S w p cs) (j:Nat) (hj:j < 20):∃ u,cs[j]?=some u∧u.oneCell'=true:=by
  obtain ⟨A,c,_,f,_,hl,hw⟩:=h.open_
  obtain ⟨_,_,_,fl,_⟩:=hl.open_
  obtain ⟨_,_,_,fw,_⟩:=hw.open_
  rcases Nat.lt_or_ge j 3 with h3|h3
  · match j,h3 with
    | 0,_=>exact ⟨_,f.c0,rfl⟩
    | 1,_=>exact ⟨_,f.c1,rfl⟩
    | 2,_=>exact ⟨_,f.c2,rfl⟩
  · rcases Nat.lt_or_ge j 10 with h10|h10
    · obtain ⟨u,hu,h1⟩:=fl.cell (j - 3) (by omega)
      have:=ziA (by omega) hu
      rw [show 3+(j - 3)=j by omega] at this
      exact ⟨u,this,h1⟩
    · rcases Nat.lt_or_ge j 17 with h17|h17
      · obtain ⟨u,hu,h1⟩:=fw.cell (j - 10) (by omega)
        have:=ziA (by omega) hu
        rw [show 10+(j - 10)=j by omega] at this
        exact ⟨u,this,h1⟩
      · obtain rfl|rfl|rfl:j=17∨j=18∨j=19:=by omega
        · exact ⟨_,f.c17,rfl⟩
        · exact ⟨_,f.c18,rfl⟩
        · exact ⟨_,f.c19,rfl⟩
theorem RP.one {S:Nat→Prop} {w:World} {p:Pt} {cs:List Value} (h:RP S w p cs):cs.toArray.all (·.oneCell')=true:=zgi h.length h.cell
section
variable {P:Program} {ops:Array Oper} {rest:List Oper} {o:Oper} {a:Act} {w:World} {Q:Exit→Act→World→Prop}
theorem ziq {K:Act→World→Prop} (ty:TypeId) (p x:Operand) (ho:o.op=.store ty p x) (hd:o.dst=none) (W:World) (old:Array Value) (g:Nat) (hW:W.heap.size=g) (cs:List Value) (hp:a.eval p=.pointer (some ⟨g,0,none⟩)) (hx:a.eval x=.agg cs.toArray)
    (n:Nat) (hi:(P.info? ty).map (·.size)=some n) (hn:cs.length=n) (hold:old.size=n) (h1:cs.toArray.all (·.oneCell')=true) (h:K a (W.alloc (.cells cs.toArray ty))):o.wp P a (W.alloc (.cells old ty)) K Q:=by
  subst hW
  unfold Oper.wp execOp
  have hs:cs.toArray.size=cs.length:=by simp
  simp only [ho,hp,hx,Sem.run_bind,run_storeAt_new (P:=P) W ty old cs.toArray (by rw [hs,hn];exact hi) (by rw [hs,hn];exact hold) h1]
  rw [show a=a.put o.dst undef by rw [hd];rfl] at h
  exact h
theorem zmk (hgd:o.guard=none) (ty:TypeId) (p x:Operand) (ho:o.op=.store ty p x) (hd:o.dst=none) (W:World) (old:Array Value) (g:Nat) (hW:W.heap.size=g) (cs:List Value) (hp:a.eval p=.pointer (some ⟨g,0,none⟩)) (hx:a.eval x=.agg cs.toArray)
    (n:Nat) (hi:(P.info? ty).map (·.size)=some n) (hn:cs.length=n) (hold:old.size=n) (h1:cs.toArray.all (·.oneCell')=true) (h:wpList P ops Q rest a (W.alloc (.cells cs.toArray ty))):wpList P ops Q (o :: rest) a (W.alloc (.cells old ty)) :=
  wpList_plain hgd fun _ hK=>ziq ty p x ho hd W old g hW cs hp hx n hi hn hold h1 (hK _ _ h)
theorem zgW (W:World) (ty:TypeId) (old:Array Value) (g:Nat) (hW:W.heap.size=g) (cs:List Value) (n:Nat) (hi:(P.info? ty).map (·.size)=some n) (hn:cs.length=n) (hold:old.size=n) (h1:cs.toArray.all (·.oneCell')=true) :
    (storeCells ⟨g,0,none⟩ cs 0).run P (W.alloc (.cells old ty)).drew=.ok () (W.alloc (.cells cs.toArray ty)).drew:=by
  subst hW
  have:=run_storeCells_new (P:=P) W.drew ty old cs.toArray (by simpa [hn] using hi) (by simpa [hn] using hold) h1
  exact this
theorem zhL (w:World) (ty:TypeId) (old:Array Value) (g:Nat) (hg:w.heap[g]?=some (.cells old ty (0,0))) (cs:List Value) (n:Nat) (hi:(P.info? ty).map (·.size)=some n) (hn:cs.length=n) (hold:old.size=n) (h1:cs.toArray.all (·.oneCell')=true) :
    (storeCells ⟨g,0,none⟩ cs 0).run P w=.ok () (w.setRow g cs.toArray):=by
  have:=run_storeVar_row (P:=P) w g ty ty old cs.toArray hg (by simpa [hn] using hi) (by simpa [hn] using hold) h1
  cases hq:P.info? ty with
  | none=>simp [hq] at hi
  | some i =>
    have hs:cs.length=i.size:=by simp [hq] at hi;omega
    simpa [storeVar,sizeOf,typeInfo,hq,Value.cells,hs] using this
end
theorem zi1 (w:World) (g:Nat) (cs old:Array Value) (t:TypeId) (h:w.heap[g]?=some (.cells old t (0,0))):(w.setRow g cs).heap[g]?=some (.cells cs t (0,0)):=setRow_heap w g old cs t _ h
theorem zlA {w0 w:World} (h:Below w0.heap.size w0 w) {g:Nat} (hg:w0.heap.size≤g) (cs:Array Value):Below w0.heap.size w0 (w.setRow g cs) :=
  h.trans ⟨rfl,rfl,rfl,by simp,fun k hk=>setRow_other w g k cs (by omega)⟩
theorem zat {w0 w:World} (h:Below w0.heap.size w0 w) (o:Obj):Below w0.heap.size w0 (w.alloc o):=h.alloc h.size o
theorem zag {w0 w w1:World} (h:Below w0.heap.size w0 w) (k:Below w.heap.size w w1):Below w0.heap.size w0 w1:=h.trans (k.mono h.size)
theorem zbd (w:World) (cs:List Value) (t:TypeId) (f:Nat × Nat) (j:Nat):(w.alloc (.cells cs.toArray t f)).cell? ⟨w.heap.size,j,none⟩=cs[j]?:=by
  rw [cell_of_row _ _ _ cs.toArray t f (heap_alloc_new w _)];simp
theorem zhJ (g j:Nat):(⟨g,0,none⟩:Addr).add j=⟨g,j,none⟩:=by unfold Addr.add;split<;>simp_all
theorem zho (w:World) (cs:List Value) (t:TypeId) (f:Nat × Nat):CellsAt (w.alloc (.cells cs.toArray t f)) ⟨w.heap.size,0,none⟩ 0 cs:=fun j u hj=>by
  rw [Nat.zero_add,zhJ,zbd];exact hj
theorem zac {w w1:World} (hb:Below w.heap.size w w1) {a:Addr} {v:Value} (h:w.cell? a=some v):w1.cell? a=some v:=(hb.cell (World.block_lt_of_cell? w _ h)).trans h
theorem ziH {α:Type} {l:List α} {k:Nat} {q:α} (h:l[k]?=some q):l.drop k=q :: l.drop (k+1):=by
  obtain ⟨hlt,rfl⟩:=List.getElem?_eq_some_iff.1 h
  exact List.drop_eq_getElem_cons hlt
theorem enters {P : Program} {g : FuncId} {fn : Func} {c : Code} (hf : P.funcs[g]? = some fn) (hname : (fn.name == "runtime.NumGoroutine") = false) (hb : fn.body = some c) (args : Array Value) (w : World) : (callFunc g args).run P w = .ok (.enter g args) w := by
  have h1 : fn.name ≠ "runtime.NumGoroutine" := by simpa using hname
  simp [callFunc,hf,h1,hb,mark]
def RBool (b:Bool) (w:World) (e:Ending) (w':World):Prop:=e=.returned (.bool b)∧Below w.heap.size w w'
theorem zaC {a b:Bool} (h:a=b):Ending.returned (.bool a)=.returned (.bool b):=by rw [h]
def RInt (b:Int) (w:World) (e:Ending) (w':World):Prop:=e=.returned (.int .i64 b)∧Below w.heap.size w w'
end Go.Proofs.YtiplihojmfbjkaaGreat
namespace Go.Proofs.YtiplihojmfbjkaaGreat
open Go.RowKit
section
variable {P:Program} {ops:Array Oper} {Q:Exit→Act→World→Prop} {S:World→Prop}
def DetOp (P:Program) (S:World→Prop) (o:Oper) (ρ:Operand→Value) (v:Value):Prop :=
  ∀ w,S w→(execOp ρ o).run P w=.ok (.value v) w∨((execOp ρ o).run P w=.ok .skip w∧v=undef)∨
    ∃ f args,(execOp ρ o).run P w=.ok (.enter f args) w∧Calls P f args w (fun e w'=>e=.returned v∧S w')
def seqS (P:Program) (ops:Array Oper) (S:World→Prop) (Q:Exit→Act→World→Prop):List Oper→Act→Prop
  | [],a=>∀ w,S w→Q .normal a w
  | o :: rest,a=>∃ v,((Region.wanted o (yielded ops a.tmps)=true∧DetOp P S o a.eval v)∨(Region.wanted o (yielded ops a.tmps)=false∧v=undef))∧seqS P ops S Q rest (a.put o.dst v)
theorem zb9 {a:Act} (h:∀ w,S w→Q .normal a w):seqS P ops S Q [] a:=h
theorem zch {o:Oper} {rest:List Oper} {a:Act} {v:Value} (hw:Region.wanted o (yielded ops a.tmps)=true) (hv:∀ w,S w→(execOp a.eval o).run P w=.ok (.value v) w) (h:seqS P ops S Q rest (a.put o.dst v)):seqS P ops S Q (o :: rest) a :=
  ⟨v,.inl ⟨hw,fun w hs=>.inl (hv w hs)⟩,h⟩
theorem zcb {o:Oper} {rest:List Oper} {a:Act} (hw:Region.wanted o (yielded ops a.tmps)=false) (h:seqS P ops S Q rest (a.put o.dst undef)):seqS P ops S Q (o :: rest) a :=
  ⟨undef,.inr ⟨hw,rfl⟩,h⟩
theorem zmT {o:Oper} {rest:List Oper} {a:Act} {v:Value} {f:FuncId} {args:Array Value} (hw:Region.wanted o (yielded ops a.tmps)=true) (hf:execOp a.eval o=callFunc f args) (he:∀ (xs:Array Value) (w:World),(callFunc f xs).run P w=.ok (.enter f xs) w)
    (hv:∀ w,S w→Calls P f args w (fun e w'=>e=.returned v∧S w')) (h:seqS P ops S Q rest (a.put o.dst v)):seqS P ops S Q (o :: rest) a :=
  ⟨v,.inl ⟨hw,fun w hs=>.inr (.inr ⟨f,args,by rw [hf];exact he _ _,hv w hs⟩)⟩,h⟩
theorem zk8 {o:Oper} {a:Act} {f:FuncId} {xs:Array Operand} {ats:Array TypeId} (ho:o.op=.call { callee:=.value (.func f),args:=xs,argTypes:=ats }):execOp a.eval o=callFunc f (xs.map a.eval):=by
  have h1:execOp a.eval o=callFunc f (#[]++xs.map a.eval ++ #[]):=by
    obtain ⟨dst,op,type,pos,after,guard⟩:=o
    simp only at ho
    subst ho
    rfl
  rw [h1];simp
theorem zbn {o:Oper} {rest:List Oper} {a:Act} (v:Value) (f:FuncId) {ats:Array TypeId} {x1:Operand} (v1:Value) (hw:Region.wanted o (yielded ops a.tmps)=true) (ho:o.op=.call { callee:=.value (.func f),args := #[x1],argTypes:=ats }) (h1:a.eval x1=v1) (he:∀ (xs:Array Value) (w:World),(callFunc f xs).run P w=.ok (.enter f xs) w)
    (hv:∀ w,S w→Calls P f #[v1] w (fun e w'=>e=.returned v∧S w')) (h:seqS P ops S Q rest (a.put o.dst v)):seqS P ops S Q (o :: rest) a :=
  zmT hw (zk8 ho) he (by simpa [h1] using hv) h
def wrOf (ops:Array Oper) (t:Tmp):Option Nat:=ops.toList.findIdx? (fun o=>o.dst==some t)
def onOf (o:Oper) (j:Nat):Bool:=o.after.any fun e=>Region.binds .any e&&e.on==j
def regionOk (ops:Array Oper):Bool :=
  Region.noSelect ops&&(List.range ops.size).all fun i=>match ops[i]? with
    | none=>false
    | some o=>(match o.dst with|some t=>wrOf ops t==some i|none=>true)&&(o.after.all fun e=>decide (e.on < i)) &&
      (o.looksAt ops).all fun t=>match wrOf ops t with
        | none=>true
        | some j=>onOf o j || (match ops[j]? with|some p=>onOf p i|none=>false)
theorem zcT (h:regionOk ops=true) {i:Nat} {o:Oper} (ho:ops[i]?=some o) :
    (∀ t,o.dst=some t→wrOf ops t=some i)∧(∀ e∈o.after,e.on < i)∧(∀ t∈o.looksAt ops, ∀ j,wrOf ops t=some j→onOf o j=true∨ ∃ p,ops[j]?=some p∧onOf p i=true):=by
  unfold regionOk at h
  rw [Bool.and_eq_true] at h
  have hlt:i < ops.size:=(Array.getElem?_eq_some_iff.1 ho).1
  have h1:=List.all_eq_true.1 h.2 i (List.mem_range.2 hlt)
  rw [ho] at h1
  simp only [Bool.and_eq_true,List.all_eq_true,Array.all_eq_true_iff_forall_mem,decide_eq_true_eq] at h1
  obtain ⟨⟨h2,h3⟩,h4⟩:=h1
  refine ⟨fun t ht=>?_,h3,fun t ht j hj=>?_⟩
  · rw [ht] at h2;simpa using h2
  · have:=h4 t ht
    rw [hj] at this
    simp only [Bool.or_eq_true] at this
    refine this.imp id fun h5=>?_
    cases hp:ops[j]? with
    | none=>rw [hp] at h5;cases h5
    | some p=>rw [hp] at h5;exact ⟨p,rfl,h5⟩
theorem zhy {o:Oper} {j:Nat} (h:onOf o j=true):∃ e∈o.after,Region.binds .any e=true∧e.on=j:=by
  unfold onOf at h
  rw [Array.any_eq_true] at h
  obtain ⟨i,hi,h⟩:=h
  simp only [Bool.and_eq_true,beq_iff_eq] at h
  exact ⟨_,Array.getElem_mem hi,h.1,h.2⟩
theorem zcQ {t:Tmp} {j:Nat} (h:wrOf ops t=some j):∃ o,ops[j]?=some o∧o.dst=some t:=by
  unfold wrOf at h
  rw [List.findIdx?_eq_some_iff_getElem] at h
  obtain ⟨hj,h1,_⟩:=h
  exact ⟨ops[j]'(by simpa using hj),by rw [Array.getElem?_eq_getElem],by simpa using h1⟩
def FrameL (ops:Array Oper) (a0:Act) (vs:Nat→Value) (L:Nat→Bool) (a:Act):Prop :=
  a.defers=a0.defers∧a.tmps.size=a0.tmps.size∧ ∀ t,a.tmps[t]?=match wrOf ops t with
    | some j=>if L j=true then (if t < a0.tmps.size then some (vs j) else none) else a0.tmps[t]?
    | none=>a0.tmps[t]?
theorem FrameL.put {a0 a:Act} {vs:Nat→Value} {L L':Nat→Bool} (h:FrameL ops a0 vs L a) {i:Nat} {o:Oper} (hd:∀ t,o.dst=some t→wrOf ops t=some i) (hL:∀ j,L' j=true↔(j=i∨L j=true)) (hnd:o.dst=none→ ∀ t,wrOf ops t≠some i) :
    FrameL ops a0 vs L' (a.put o.dst (vs i)):=by
  obtain ⟨h1,h2,h3⟩:=h
  cases hdst:o.dst with
  | none =>
    refine ⟨h1,h2,fun t=>?_⟩
    show a.tmps[t]?=_
    rw [h3 t]
    cases hw:wrOf ops t with
    | none=>rfl
    | some j =>
      have hne:j≠i:=fun e=>hnd hdst t (by rw [hw,e])
      have:L j=true↔L' j=true:=by rw [hL];exact ⟨.inr,fun h=>h.resolve_left hne⟩
      by_cases hl:L j=true
      · simp only [hl,this.1 hl]
      · simp only [hl,mt this.2 hl]
  | some d =>
    refine ⟨h1,by simpa [Act.put] using h2,fun t=>?_⟩
    show (a.tmps.setIfInBounds d (vs i))[t]?=_
    rw [Array.getElem?_setIfInBounds]
    by_cases hdt:d=t
    · subst hdt
      rw [if_pos rfl,hd d hdst]
      simp only [(hL i).2 (.inl rfl),if_true,h2]
    · rw [if_neg hdt,h3 t]
      cases hw:wrOf ops t with
      | none=>rfl
      | some j =>
        have hne:j≠i:=fun e=>by
          obtain ⟨p,hp,hpd⟩:=zcQ hw
          subst e
          obtain ⟨q,hq,hqd⟩:=zcQ (hd d hdst)
          rw [hp] at hq
          injection hq with hq
          rw [hq,hqd] at hpd
          injection hpd with hpd
          exact hdt hpd
        have:L j=true↔L' j=true:=by rw [hL];exact ⟨.inr,fun h=>h.resolve_left hne⟩
        by_cases hl:L j=true
        · simp only [hl,this.1 hl]
        · simp only [hl,mt this.2 hl]
theorem FrameL.eq {a0 a b:Act} {vs:Nat→Value} {L L':Nat→Bool} (h:FrameL ops a0 vs L a) (k:FrameL ops a0 vs L' b) (hL:∀ j o,ops[j]?=some o→L j=L' j):a=b:=by
  obtain ⟨h1,_,h3⟩:=h
  obtain ⟨k1,_,k3⟩:=k
  obtain ⟨ta,da⟩:=a
  obtain ⟨tb,db⟩:=b
  simp only at h1 h3 k1 k3
  have:ta=tb:=Array.ext_getElem? fun t=>by
    rw [h3 t,k3 t]
    cases hw:wrOf ops t with
    | none=>rfl
    | some j =>
      obtain ⟨p,hp,_⟩:=zcQ hw
      simp only [hL j p hp]
  rw [this,h1,k1]
theorem zhw:∀ (l:List Oper) (k:Nat) (a:Act),seqS P ops S Q l a→ ∃ (vs:Nat→Value) (fs:Nat→Act),fs k=a∧(∀ i o,l[i]?=some o→((Region.wanted o (yielded ops (fs (k+i)).tmps)=true∧DetOp P S o (fs (k+i)).eval (vs (k+i)))∨(Region.wanted o (yielded ops (fs (k+i)).tmps)=false∧vs (k+i)=undef))∧fs (k+i+1)=(fs (k+i)).put o.dst (vs (k+i)))∧ ∀ w,S w→Q .normal (fs (k+l.length)) w
  | [],k,a,h=>⟨fun _=>undef,fun _=>a,rfl,fun i o h=>by simp at h,h⟩
  | o :: rest,k,a,⟨v,hv,h⟩=>by
    obtain ⟨vs,fs,h0,hi,hq⟩:=zhw rest (k+1) _ h
    refine ⟨fun i=>if i=k then v else vs i,fun i=>if i=k then a else fs i,by simp,fun i p hp=>?_,fun w hw=>?_⟩
    · cases i with
      | zero =>
        simp only [List.getElem?_cons_zero,Option.some.injEq] at hp
        subst hp
        simp only [Nat.add_zero,if_true]
        refine ⟨hv,?_⟩
        rw [if_neg (by omega),h0]
      | succ i =>
        simp only [List.getElem?_cons_succ] at hp
        have h2:=hi i p hp
        rw [show k+(i+1)=k+1+i by omega]
        simp only [if_neg (show ¬ k+1+i=k by omega),if_neg (show ¬ k+1+i+1=k by omega)]
        exact h2
    · have:=hq w hw
      rw [show k+1+rest.length=k+(o :: rest).length by simp;omega] at this
      simp only [if_neg (show ¬ k+(o :: rest).length=k by simp)]
      exact this
theorem zky (hk:regionOk ops=true) (a0:Act) (vs:Nat→Value) (fs:Nat→Act) (h0:fs 0=a0)
    (hs:∀ i o,ops[i]?=some o→((Region.wanted o (yielded ops (fs i).tmps)=true∧DetOp P S o (fs i).eval (vs i))∨(Region.wanted o (yielded ops (fs i).tmps)=false∧vs i=undef))∧fs (i+1)=(fs i).put o.dst (vs i))
    (hq:∀ w,S w→Q .normal (fs ops.size) w):∀ (fuel:Nat) (listed:Array Bool) (a:Act) (w:World),listed.size=ops.size→(∀ i o,ops[i]?=some o→listed.getD i true=true→ ∀ e∈o.after,Region.binds .any e=true→listed.getD e.on false=true)→
      fuel=(listed.toList.filter (fun b=>!b)).length→FrameL ops a0 vs (fun j=>listed.getD j true) a→S w→wpAny P .any ops Q fuel listed a w:=by
  have hseq:∀ k,k≤ops.size→FrameL ops a0 vs (fun j=>decide (j < k)) (fs k):=by
    intro k
    induction k with
    | zero=>intro _;rw [h0];exact ⟨rfl,rfl,fun t=>by cases wrOf ops t<;>simp⟩
    | succ k ih =>
      intro hle
      have ho:ops[k]?=some ops[k]:=Array.getElem?_eq_getElem (by omega)
      rw [(hs k _ ho).2]
      refine (ih (by omega)).put (zcT hk ho).1 (fun j=>by simp;omega) fun hn t ht=>?_
      obtain ⟨p,hp,hpd⟩:=zcQ ht
      rw [ho] at hp
      injection hp with hp
      rw [← hp,hn] at hpd
      cases hpd
  have hsel:=Region.noSelect_spec (ops:=ops) (by unfold regionOk at hk;rw [Bool.and_eq_true] at hk;exact hk.1)
  -- all listed: the frame is the last one
  have done:∀ (listed:Array Bool) (a:Act) (w:World),listed.size=ops.size→FrameL ops a0 vs (fun j=>listed.getD j true) a→(∀ i,i < ops.size→listed.getD i true=true)→S w→Q .normal a w:=by
    intro listed a w hsz hf hall hw
    rw [hf.eq (hseq ops.size (Nat.le_refl _)) fun j o hj=>by
      have hlt:j < ops.size:=(Array.getElem?_eq_some_iff.1 hj).1
      rw [hall j hlt];simp [hlt]]
    exact hq w hw
  -- nothing may come up: all are listed
  have none_ready:∀ (listed:Array Bool),listed.size=ops.size→Region.ready .any ops listed=[]→ ∀ i,i < ops.size→listed.getD i true=true:=by
    intro listed hsz hr i
    induction i using Nat.strongRecOn with
    | _ i ih =>
      intro hi
      cases hb:listed.getD i true with
      | true=>rfl
      | false =>
        have ho:ops[i]?=some ops[i]:=Array.getElem?_eq_getElem hi
        have:i∈Region.ready .any ops listed:=mem_ready.2 ⟨hb,_,ho,fun e he _=>by
          have hlt:=(zcT hk ho).2.1 e he
          have h1:=ih e.on hlt (by omega)
          have h2:e.on < listed.size:=by omega
          simp only [Array.getD,h2,dif_pos] at h1 ⊢
          exact h1⟩
        rw [hr] at this
        cases this
  intro fuel
  induction fuel with
  | zero =>
    intro listed a w hsz hcl hf hfr hw
    have hall:∀ i,i < ops.size→listed.getD i true=true:=fun i hi=>by
      have hlt:i < listed.size:=by omega
      have hn:=List.eq_nil_of_length_eq_zero hf.symm
      rw [List.filter_eq_nil_iff] at hn
      have:=hn listed[i] (by simp)
      simp only [Array.getD,hlt,dif_pos]
      simpa using this
    refine ⟨?_,done listed a w hsz hfr hall hw⟩
    rw [List.eq_nil_iff_forall_not_mem]
    intro i hi
    obtain ⟨h1,o,ho,_⟩:=mem_ready.1 hi
    rw [hall i (Array.getElem?_eq_some_iff.1 ho).1] at h1
    cases h1
  | succ fuel ih =>
    intro listed a w hsz hcl hf hfr hw
    refine ⟨fun hr=>done listed a w hsz hfr (none_ready listed hsz hr) hw,fun i hi=>?_⟩
    obtain ⟨hun,o,ho,hdeps⟩:=mem_ready.1 hi
    have hlt:i < ops.size:=(Array.getElem?_eq_some_iff.1 ho).1
    have hreg:=zcT hk ho
    have hsame:∀ t∈o.looksAt ops,a.tmps[t]?=(fs i).tmps[t]?:=by
      intro t ht
      rw [hfr.2.2 t,(hseq i (by omega)).2.2 t]
      cases hwr:wrOf ops t with
      | none=>rfl
      | some j =>
        have hj:(listed.getD j true=true)↔j < i:=by
          rcases hreg.2.2 t ht j hwr with h1 | ⟨p,hp,h1⟩
          · obtain ⟨e,he,hb,rfl⟩:=zhy h1
            have h2:=hdeps e he hb
            have h3:=hreg.2.1 e he
            refine ⟨fun _=>h3,fun _=>?_⟩
            have h4:e.on < listed.size:=by omega
            simp only [Array.getD,h4,dif_pos] at h2 ⊢
            exact h2
          · obtain ⟨e,he,hb,rfl⟩:=zhy h1
            have h3:=(zcT hk hp).2.1 e he
            refine ⟨fun h4=>?_,fun h4=>by omega⟩
            have h5:=hcl j p hp h4 e he hb
            have h6:e.on < listed.size:=by omega
            simp only [Array.getD,h6,dif_pos] at h5 hun
            rw [h5] at hun
            cases hun
        by_cases hji:j < i
        · simp only [hj.2 hji,hji,decide_true]
        · have:¬ listed.getD j true=true:=fun h=>hji (hj.1 h)
          simp [this,hji]
    have heval:∀ x∈o.op.operands,a.eval x=(fs i).eval x:=by
      intro x hx
      cases x with
      | tmp t =>
        have hm:t∈o.looksAt ops:=by
          unfold Oper.looksAt
          refine List.mem_append_left _ (List.mem_filterMap.2 ⟨.tmp t,by simpa using hx,rfl⟩)
        have:=hsame t hm
        simp only [Act.eval,Array.getD_eq_getD_getElem?,this]
      | _=>rfl
    have hexec:execOp a.eval o=execOp (fs i).eval o:=execOp_congr o (fun cs b=>hsel i o cs b ho) heval
    have hwant:Region.wanted o (yielded ops a.tmps)=Region.wanted o (yielded ops (fs i).tmps):=by
      unfold Region.wanted
      cases hg:o.guard with
      | none=>rfl
      | some gb =>
        obtain ⟨g,b⟩:=gb
        simp only
        congr 1
        unfold yielded
        cases hgo:(ops[g]?).bind (·.dst) with
        | none=>rfl
        | some t =>
          have hm:t∈o.looksAt ops:=by
            unfold Oper.looksAt
            refine List.mem_append_right _ ?_
            rw [hg];simp only [hgo];simp
          simp only [Option.bind_some,hsame t hm]
    have hnext:FrameL ops a0 vs (fun j=>(listed.setIfInBounds i true).getD j true) (a.put o.dst (vs i)):=by
      refine hfr.put hreg.1 (fun j=>?_) fun hn t ht=>?_
      · by_cases hij:i=j
        · subst hij
          have:i < listed.size:=by omega
          simp [this]
        · rw [getD_set_ne true hij];simp [Ne.symm hij]
      · obtain ⟨p,hp,hpd⟩:=zcQ ht
        rw [ho] at hp
        injection hp with hp
        rw [← hp,hn] at hpd
        cases hpd
    have hcl':∀ j p,ops[j]?=some p→(listed.setIfInBounds i true).getD j true=true→ ∀ e∈p.after,Region.binds .any e=true→(listed.setIfInBounds i true).getD e.on false=true:=by
      intro j p hp hj e he hb
      by_cases hij:i=j
      · subst hij
        rw [ho] at hp
        injection hp with hp
        subst hp
        exact getD_set_true (hdeps e he hb)
      · rw [getD_set_ne true hij] at hj
        exact getD_set_true (hcl j p hp hj e he hb)
    have hfuel:fuel=((listed.setIfInBounds i true).toList.filter (fun b=>!b)).length:=by
      have hil:i < listed.size:=by omega
      have hfi:listed[i]=false:=by simpa [Array.getD,hil] using hun
      have hc:∀ (l:List Bool) (k:Nat) (hkl:k < l.length),l[k]=false→((l.set k true).filter (fun b=>!b)).length+1=(l.filter (fun b=>!b)).length:=by
        intro l
        induction l with
        | nil=>intro k hkl;simp at hkl
        | cons b l ih2 =>
          intro k hkl hb
          cases k with
          | zero=>simp only [List.getElem_cons_zero] at hb;subst hb;simp
          | succ k =>
            simp only [List.getElem_cons_succ] at hb
            have:=ih2 k (by simpa using hkl) hb
            cases b<;>simp at this ⊢ <;> omega
      have:=hc listed.toList i (by simpa using hil) (by simpa using hfi)
      rw [Array.toList_setIfInBounds]
      omega
    have go:∀ w',S w'→wpAny P .any ops Q fuel (listed.setIfInBounds i true) (a.put o.dst (vs i)) w':=fun w' hw'=>ih _ _ w' (by simpa using hsz) hcl' hfuel hnext hw'
    unfold wpOp
    simp only [ho]
    rw [hwant]
    rcases (hs i o ho).1 with ⟨hwt,hdet⟩ | ⟨hwt,hv⟩
    · rw [if_pos hwt]
      refine .inl ?_
      unfold Oper.wp
      rw [hexec]
      rcases hdet w hw with hr | ⟨hr,hv⟩ | ⟨f,args,hr,hc⟩
      · rw [hr];exact go w hw
      · rw [hr,Oper.upon_skip]
        have:=go w hw
        rw [hv] at this
        exact this
      · rw [hr,Oper.upon_enter]
        refine hc.mono fun e w' he=>?_
        obtain ⟨rfl,hs'⟩:=he
        exact go w' hs'
    · rw [if_neg (by rw [hwt];decide)]
      have:=go w hw
      rw [hv] at this
      exact this
theorem zbr {id:Nat} {a:Act} {w:World} {l:List Oper} (S:World→Prop) (hm:P.follows .mixedOrders=true) (hk:regionOk l.toArray=true) (hS:S w.drew) (h:seqS P l.toArray S Q l a):(Code.region id l.toArray true).wp P Q a w:=by
  refine wp_region_any hm ?_
  obtain ⟨vs,fs,h0,hs,hq⟩:=zhw l 0 a h
  simp only [Nat.zero_add] at hs hq
  have hsz:l.toArray.size=l.length:=by simp
  refine zky hk a vs fs h0 (fun i o ho=>hs i o (by simpa using ho)) (by rw [hsz];exact hq) _ _ a _ (by simp) (fun i o ho hi=>?_) (by simp) ⟨rfl,rfl,fun t=>?_⟩ hS
  · have hlt:i < l.toArray.size:=(Array.getElem?_eq_some_iff.1 ho).1
    simp [Array.getD] at hi
    omega
  · cases hw:wrOf l.toArray t with
    | none=>rfl
    | some j =>
      obtain ⟨p,hp,_⟩:=zcQ hw
      have hlt:j < l.toArray.size:=(Array.getElem?_eq_some_iff.1 hp).1
      have:¬ (Array.replicate l.toArray.size false).getD j true=true:=by
        simp only [Array.getD,Array.size_replicate,hlt,dif_pos]
        simp
      show _=if _ then _ else _
      rw [if_neg this]
end
end Go.Proofs.YtiplihojmfbjkaaGreat
