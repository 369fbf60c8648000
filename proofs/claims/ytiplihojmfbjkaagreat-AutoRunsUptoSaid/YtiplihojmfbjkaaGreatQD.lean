/- Walks: a pattern's machine is built. -/
import Derived.Test.YtiplihojmfbjkaaGreatQB
import Derived.Test.YtiplihojmfbjkaaGreatWM
import Derived.Test.YtiplihojmfbjkaaGreatVC
set_option maxRecDepth 100000
set_option maxHeartbeats 4000000
namespace Go.Proofs.YtiplihojmfbjkaaGreat
open Go.RowKit
def encA (m:Mach):List D:=[.sl (m.elems.map encP),.sl (m.moves.map encMv),.v (.int .i64 m.states)]
theorem zlq {p:Pt} (h:nodesP p≤20000):fits (nodesP p) ⟨[],[],2⟩:=⟨by simpa using h,by simp only [List.length_nil];omega,by decide,by show (2:Int)+_≤_;omega⟩
theorem zjD (p:Pt) (hs:shapeP p=true) (hn:nodesP p≤20000):CallsM Tryz.prog 23 [.dat (encP p)] [] (.dat (encA (buildM p))) []:=by
  have hL:=zqc p 0 1 ⟨[],[],2⟩ hs (zlq hn)
  unfold buildM
  generalize layM p 0 1 ⟨[],[],2⟩=M at hL ⊢
  simp only [autoS,List.map_nil] at hL
  (refine zav (Ty:=Ty) zad Tryz.func23 rfl rfl rfl (by rfl) fun w0 S0 hp=>?_;refine enA ?_)
  iterate 7 refine nx ?_
  refine uBdZ ?_
  refine uAlO ?_
  refine uSo ?_
  refine uNilO 3 1001 0 34 20 ?_
  refine uNilO 3 1002 1 121 3 ?_
  refine uRn 3 1000 (zaH (hp 1000 rfl)) ?_
  repeat' (first|refine uM (hL) ?_|refine nx ?_)
  exact zbt (by rfl) rfl ghasA
end Go.Proofs.YtiplihojmfbjkaaGreat
namespace Go.Proofs.YtiplihojmfbjkaaGreat
open Go.RowKit
def encR (r:List Bool):List D:=[.sl (r.map encB)]
def fitAt (fit:List (List Bool)) (e x:Int):Bool:=hasB (fit[e.toNat]?.getD []) x.toNat
def staysB (m:Mach) (fit:List (List Bool)) (node:Int) (v:Mv):Bool:=v.elem == -1 || match m.elems[v.elem.toNat]? with
  | none=>false
  | some p=>p.kind==1&&fitAt fit v.elem node
def goesB (m:Mach) (fit:List (List Bool)) (edge along:Int) (v:Mv):Bool:=v.elem != -1&&match m.elems[v.elem.toNat]? with
  | none=>false
  | some p=>p.kind==2&&fitAt fit v.elem edge&&((IntKind.i64.wrap ((BitVec.ofInt IntKind.i64.bits p.dir &&& BitVec.ofInt IntKind.i64.bits along).toNat:Nat)) != 0)
structure FitOk (kd:Int) (m:Mach) (fit:List (List Bool)) (x:Int):Prop where
  len:m.elems.length≤fit.length
  row:∀ (i:Nat) (p:Pt) (r:List Bool),m.elems[i]?=some p→p.kind=kd→fit[i]?=some r→x < (r.length:Int)
  pos:0≤x
def elemOk (m:Mach) (v:Mv):Prop:=v.elem = -1∨(0≤v.elem∧v.elem < (m.elems.length:Int))
section
variable {kd:Int} {m:Mach} {fit:List (List Bool)} {x:Int} {v:Mv}
theorem elemOk.get (he:elemOk m v) (h1:v.elem ≠ -1):∃ p,m.elems[v.elem.toNat]?=some p∧0≤v.elem:=by
  obtain ⟨a1,a2⟩:=he.resolve_left h1
  exact ⟨_,List.getElem?_eq_getElem (by omega),a1⟩
theorem FitOk.get (h:FitOk kd m fit x) {p:Pt} (hp:m.elems[v.elem.toNat]?=some p) (hk:p.kind=kd):∃ (r:List Bool) (b:Bool),fit[v.elem.toNat]?=some r∧r[x.toNat]?=some b∧fitAt fit v.elem x=b:=by
  have hl:=h.len
  have hlt:v.elem.toNat < fit.length:=by have:=(List.getElem?_eq_some_iff.1 hp).1;omega
  have hrow:=h.row _ p _ hp hk (List.getElem?_eq_getElem hlt)
  have h0:=h.pos
  have hx:x.toNat < (fit[v.elem.toNat]).length:=by omega
  exact ⟨_,_,List.getElem?_eq_getElem hlt,List.getElem?_eq_getElem hx,by unfold fitAt;rw [List.getElem?_eq_getElem hlt];exact zcN (List.getElem?_eq_getElem hx)⟩
end
theorem zjP (m:Mach) (fit:List (List Bool)) (v:Mv) (node:Int) (hf:FitOk 1 m fit node) (he:elemOk m v):CallsV Tryz.prog 86 [.dat (encA m),vL (fit.map encR),.dat (encMv v),vI node] (.val (vB (staysB m fit node v))):=by
  have h0:=hf.pos
  unfold encA encMv
  by_cases h1:v.elem = -1
  · have e:staysB m fit node v=true:=by unfold staysB;rw [h1];rfl
    rw [e]
    (refine zaa (Ty:=Ty) zad Tryz.func86 rfl rfl rfl fun w0 S0=>?_;refine enA ?_)
    repeat' (first|refine nx ?_|(refine nx2 ?_ ?_<;>intro hb))
    exact zab (by rfl) rfl
  obtain ⟨p,q1,q5⟩:=he.get h1
  have e1:staysB m fit node v=(p.kind==1&&fitAt fit v.elem node):=by
    unfold staysB
    rw [q1,show (v.elem == -1)=false by simpa using h1];rfl
  rw [e1]
  by_cases hk:p.kind=1
  · obtain ⟨r,b,q2,q3,q4⟩:=hf.get q1 hk
    rw [q4,show (p.kind==1)=true by simpa using hk]
    (refine zaa (Ty:=Ty) zad Tryz.func86 rfl rfl rfl fun w0 S0=>?_;refine enA ?_)
    repeat' (first|refine nx ?_|(refine nx2 ?_ ?_<;>intro hb))
    exact zab (by rfl) rfl
  · rw [show (p.kind==1)=false by simpa using hk]
    (refine zaa (Ty:=Ty) zad Tryz.func86 rfl rfl rfl fun w0 S0=>?_;refine enA ?_)
    repeat' (first|refine nx ?_|(refine nx2 ?_ ?_<;>intro hb))
    exact zab (by rfl) rfl
theorem zl8 (m:Mach) (fit:List (List Bool)) (v:Mv) (edge along:Int) (hf:FitOk 2 m fit edge) (he:elemOk m v):CallsV Tryz.prog 87 [.dat (encA m),vL (fit.map encR),.dat (encMv v),vI edge,vI along] (.val (vB (goesB m fit edge along v))):=by
  have h0:=hf.pos
  unfold encA encMv
  by_cases h1:v.elem = -1
  · have e:goesB m fit edge along v=false:=by unfold goesB;rw [h1];rfl
    rw [e]
    (refine zaa (Ty:=Ty) zad Tryz.func87 rfl rfl rfl fun w0 S0=>?_;refine enA ?_)
    repeat' (first|refine nx ?_|(refine nx2 ?_ ?_<;>intro hb))
    exact zab (by rfl) rfl
  obtain ⟨p,q1,q5⟩:=he.get h1
  have e1:goesB m fit edge along v=(p.kind==2&&fitAt fit v.elem edge&&((IntKind.i64.wrap ((BitVec.ofInt IntKind.i64.bits p.dir &&& BitVec.ofInt IntKind.i64.bits along).toNat:Nat)) != 0)):=by
    unfold goesB
    rw [q1,show (v.elem != -1)=true by simpa using h1];rfl
  rw [e1]
  by_cases hk:p.kind=2
  · obtain ⟨r,b,q2,q3,q4⟩:=hf.get q1 hk
    rw [q4,show (p.kind==2)=true by simpa using hk]
    cases b
    all_goals
      (refine zaa (Ty:=Ty) zad Tryz.func87 rfl rfl rfl fun w0 S0=>?_;refine enA ?_)
      repeat' (first|refine nx ?_|(refine nx2 ?_ ?_<;>intro hb))
      exact zab (by rfl) rfl
  · rw [show (p.kind==2)=false by simpa using hk]
    (refine zaa (Ty:=Ty) zad Tryz.func87 rfl rfl rfl fun w0 S0=>?_;refine enA ?_)
    repeat' (first|refine nx ?_|(refine nx2 ?_ ?_<;>intro hb))
    exact zab (by rfl) rfl
end Go.Proofs.YtiplihojmfbjkaaGreat
namespace Go.Proofs.YtiplihojmfbjkaaGreat
open Go.RowKit
set_option maxHeartbeats 16000000
theorem ziB:∀ p:Pt,CallsV Tryz.prog 62 [.dat (encP p)] (.val (vI (countP p))):=Pt.ind fun p ih=>by
  have hL:=ziU p.label
  have hW:=ziU p.wher
  (refine zaa (Ty:=Ty) zad Tryz.func62 rfl rfl rfl fun w0 S0=>?_;refine enA ?_)
  have hlm:(p.kids.map encP).length=p.kids.length:=List.length_map _
  repeat (first|(refine isCl ?_;first|refine uC (hL) ?_|refine uC (hW) ?_)|(refine imCl ?_;first|refine mC (hL) ?_|refine mC (hW) ?_)|refine nx ?_)
  refine zay (α:=Nat) (fun k=>[(1,.one (.po 1 0)),(3,vI ((p.kids.take k).foldl (fun n q=>IntKind.i64.wrap (n+countP q)) (IntKind.i64.wrap (IntKind.i64.wrap (1+countE p.label)+countE p.wher)))),(4,vI k)]) (fun _=>[(1,.box 34 (encP p))]) (fun k=>k≤p.kids.length) (fun k=>p.kids.length - k) 0 (Nat.zero_le _) subA subA ?_
  intro k hk
  refine zmj (k:=1) (j:=19) (rows:=p.kids.map encP) rfl (by rw [zaM];rfl) fun hlim=>?_
  by_cases hlt:k < p.kids.length
  · obtain ⟨q,hq⟩:∃ q,p.kids[k]?=some q:=⟨_,List.getElem?_eq_getElem hlt⟩
    have hQ:=ih q (List.mem_of_getElem? hq)
    have hnx:=zbe (g:=fun (n:Int) q=>IntKind.i64.wrap (n+countP q)) (b:=IntKind.i64.wrap (IntKind.i64.wrap (1+countE p.label)+countE p.wher)) hq
    repeat (first|refine uC (hQ) ?_|refine mC (hQ) ?_|refine nx ?_)
    rw [← hnx]
    exact ⟨k+1,by omega,hlt,subA,subA⟩
  · have hkl:k=p.kids.length:=by omega
    subst hkl
    rw [List.take_length]
    repeat refine nx ?_
    exact zab (by rfl) (zaG (zl9 p).symm)
end Go.Proofs.YtiplihojmfbjkaaGreat
namespace Go.Proofs.YtiplihojmfbjkaaGreat
open Go.RowKit
theorem zg8 (A s t:Nat) (ht:1≤t):min (min (1+A) 401+(min s 401+1) * t) 401=min (1+(A+(s+1) * t)) 401:=by
  by_cases h:s≤401
  · rw [Nat.min_eq_left h];omega
  · rw [Nat.min_eq_right (show 401≤s by omega)]
    have h1:402 * 1≤402 * t:=Nat.mul_le_mul_left _ ht
    have h2:402 * t≤(s+1) * t:=Nat.mul_le_mul_right _ (by omega)
    rw [show 401+1=402 from rfl]
    omega
theorem zkZ (A s:Nat):min (min (1+A) 401+min s 401) 401=min (1+(A+s)) 401:=by omega
theorem zko (a:Int) (n:Nat) (h:a=n):(if (401:Int) < a then (401:Int) else a)=((min n 401:Nat):Int):=by
  subst h;split<;>omega
def wP (p k:Pt):Nat:=if p.kind=5 then (sizeN k+1) * timesP p else sizeN k
theorem zop (p:Pt):sizeN p=1+(p.kids.map (wP p)).sum:=by rw [zet];rfl
theorem znc {p q:Pt} {k:Nat} (hq:p.kids[k]?=some q):((p.kids.take (k+1)).map (wP p)).sum=((p.kids.take k).map (wP p)).sum+wP p q:=by
  rw [List.take_add_one,hq,Option.toList_some,List.map_append,List.sum_append];simp
theorem ziK:∀ p:Pt,rightP p=true→CallsV Tryz.prog 35 [.dat (encP p)] (.val (vI ((min (sizeN p) 401:Nat):Int))):=Pt.ind fun p ih h=>by
  have hr:=zaF h
  have hlm:(p.kids.map encP).length=p.kids.length:=List.length_map _
  (refine zaa (Ty:=Ty) zad Tryz.func35 rfl rfl rfl fun w0 S0=>?_;refine enA ?_)
  repeat refine nx ?_
  refine zay (α:=Nat) (fun k=>[(1,.one (.po 1 0)),(3,vI ((min (1+((p.kids.take k).map (wP p)).sum) 401:Nat):Int)),(9,vL (p.kids.map encP)),(10,vI ((p.kids.map encP).length:Int)),(11,vI k)]) (fun _=>[(1,.box 34 (encP p))]) (fun k=>k≤p.kids.length) (fun k=>p.kids.length - k) 0 (Nat.zero_le _) subA subA ?_
  intro k hk
  refine zbm (t:=9) rfl rfl fun hlim=>?_
  by_cases hlt:k < p.kids.length
  · obtain ⟨q,hq⟩:∃ q,p.kids[k]?=some q:=⟨_,List.getElem?_eq_getElem hlt⟩
    have hQ:=ih q (List.mem_of_getElem? hq) (hr q (List.mem_of_getElem? hq))
    have hnx:=znc hq
    by_cases k5:p.kind=5
    · obtain ⟨_,h1,h2,h3⟩:=zaI h k5
      have hw:wP p q=(sizeN q+1) * timesP p:=by unfold wP;rw [if_pos k5]
      by_cases hm:p.max < 0
      · have ht:timesP p=(p.min+1).toNat:=by unfold timesP;rw [if_pos hm]
        have e1:(((min (sizeN q) 401:Nat):Int)+1) * (p.min+1)=(((min (sizeN q) 401+1) * timesP p:Nat):Int):=by
          rw [Int.natCast_mul,ht,Int.toNat_of_nonneg (by omega)];rfl
        have hmul:(min (sizeN q) 401+1) * timesP p≤402 * 21:=Nat.mul_le_mul (by omega) (by omega)
        have e2 : -9223372036854775808≤(((min (sizeN q) 401:Nat):Int)+1) * (p.min+1)∧(((min (sizeN q) 401:Nat):Int)+1) * (p.min+1)≤100000:=by rw [e1];omega
        obtain ⟨e3,e4⟩:=e2
        repeat (first|refine uC (hQ) ?_|refine nx ?_)
        rw [zko _ (min (1+((p.kids.take k).map (wP p)).sum) 401+(min (sizeN q) 401+1) * timesP p) (by rw [e1];rfl),zg8 _ _ _ (by omega),← hw,← hnx]
        exact ⟨k+1,by omega,hlt,subA,subA⟩
      · have ht:timesP p=p.max.toNat:=by unfold timesP;rw [if_neg hm]
        have e1:(((min (sizeN q) 401:Nat):Int)+1) * p.max=(((min (sizeN q) 401+1) * timesP p:Nat):Int):=by
          rw [Int.natCast_mul,ht,Int.toNat_of_nonneg (by omega)];rfl
        have hmul:(min (sizeN q) 401+1) * timesP p≤402 * 21:=Nat.mul_le_mul (by omega) (by omega)
        have e2 : -9223372036854775808≤(((min (sizeN q) 401:Nat):Int)+1) * p.max∧(((min (sizeN q) 401:Nat):Int)+1) * p.max≤100000:=by rw [e1];omega
        obtain ⟨e3,e4⟩:=e2
        repeat (first|refine uC (hQ) ?_|refine nx ?_)
        rw [zko _ (min (1+((p.kids.take k).map (wP p)).sum) 401+(min (sizeN q) 401+1) * timesP p) (by rw [e1];rfl),zg8 _ _ _ (by omega),← hw,← hnx]
        exact ⟨k+1,by omega,hlt,subA,subA⟩
    · have hw:wP p q=sizeN q:=by unfold wP;rw [if_neg k5]
      repeat (first|refine uC (hQ) ?_|refine nx ?_)
      rw [zko _ (min (1+((p.kids.take k).map (wP p)).sum) 401+min (sizeN q) 401) (by rfl),zkZ,← hw,← hnx]
      exact ⟨k+1,by omega,hlt,subA,subA⟩
  · have hkl:k=p.kids.length:=by omega
    subst hkl
    rw [List.take_length,← zop]
    repeat refine nx ?_
    exact zab (by rfl) rfl
theorem zo2 (p:Pt):CallsV Tryz.prog 126 [.dat (encP p)] (.val (vB (isElem p))):=by
  have hdef:isElem p=(p.kind==1 || p.kind==2):=rfl
  (refine zaa (Ty:=Ty) zad Tryz.func126 rfl rfl rfl fun w0 S0=>?_;refine enA ?_)
  by_cases k1:p.kind=1
  · repeat refine nx ?_
    exact zab (by rfl) (zao (by rw [hdef];simp [k1]))
  · by_cases k2:p.kind=2
    · repeat refine nx ?_
      exact zab (by rfl) (zao (by rw [hdef];simp [k2]))
    · repeat refine nx ?_
      exact zab (by rfl) (zao (by rw [hdef];simp [k1,k2]))
theorem zlt {α β:Type} {f:α→List β} {l:List α} {k:Nat} {q:α} (hq:l[k]?=some q):((l.take k).flatMap f).length+(f q).length≤(l.flatMap f).length:=by
  have e:l=l.take (k+1)++l.drop (k+1):=(List.take_append_drop _ _).symm
  rw [List.take_add_one,hq,Option.toList_some] at e
  have:(l.flatMap f).length=((l.take k++[q]++l.drop (k+1)).flatMap f).length:=by rw [← e]
  rw [this,List.flatMap_append,List.flatMap_append]
  simp
theorem zk9 {l:List Pt} {q:Pt} {i:Nat} (hq:l[i]?=some q):(l.take (i+1)).flatMap elems=(l.take i).flatMap elems++elems q:=by
  rw [List.take_add_one,hq,Option.toList_some,List.flatMap_append,List.flatMap_singleton]
theorem zjz:∀ p:Pt,(elems p).length≤1000000→CallsV Tryz.prog 76 [.dat (encP p)] (.val (vL ((elems p).map encP))):=Pt.ind fun p ih hb=>by
  have hE:=zo2 p
  have hlm:(p.kids.map encP).length=p.kids.length:=List.length_map _
  (refine zaa (Ty:=Ty) zad Tryz.func76 rfl rfl rfl fun w0 S0=>?_;refine enA ?_)
  cases hel:isElem p with
  | true =>
    rw [hel] at hE
    repeat (first|refine uC (hE) ?_|refine nx ?_)
    exact zab (by rfl) (by rw [za5,if_pos hel];rfl)
  | false =>
    rw [hel] at hE
    have hdef:elems p=p.kids.flatMap elems:=by rw [za5,if_neg (by rw [hel];decide)]
    rw [hdef] at hb
    repeat (first|refine uC (hE) ?_|refine nx ?_)
    refine uNil 3 100 34 20 ?_
    refine zay (α:=Nat) (fun i=>[(3,.one (.own 100 (((p.kids.take i).flatMap elems).map encP))),(11,vL (p.kids.map encP)),(12,vI ((p.kids.map encP).length:Int)),(13,vI i)]) (fun _=>[(100,.tok 34 20)]) (fun i=>i≤p.kids.length) (fun i=>p.kids.length - i) 0 (Nat.zero_le _) subA subA ?_
    intro i hi
    refine zbm (t:=11) rfl rfl fun hlim=>?_
    by_cases hlt:i < p.kids.length
    · obtain ⟨q,hq⟩:∃ q,p.kids[i]?=some q:=⟨_,List.getElem?_eq_getElem hlt⟩
      have hfl:=zlt (f:=elems) hq
      have hQ:=ih q (List.mem_of_getElem? hq) (by omega)
      have hnx':((p.kids.take i).flatMap elems).map encP++(elems q).map encP=((p.kids.take (i+1)).flatMap elems).map encP:=by rw [zk9 hq,List.map_append]
      repeat (first|refine uC (hQ) ?_|refine nx ?_)
      exact ⟨i+1,by omega,hlt,subA,subA⟩
    · have hil:i=p.kids.length:=by omega
      subst hil
      rw [List.take_length,← hdef]
      repeat refine nx ?_
      exact zab (by rfl) rfl
end Go.Proofs.YtiplihojmfbjkaaGreat
namespace Go.Proofs.YtiplihojmfbjkaaGreat
open Go.RowKit
end Go.Proofs.YtiplihojmfbjkaaGreat
