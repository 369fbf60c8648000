/- Still more steps: calls of the outside,of closures;whole values compared;rows of its own;what is settled. -/
import Derived.Test.YtiplihojmfbjkaaGreatWF
import Derived.Test.YtiplihojmfbjkaaGreatWA
namespace Go.Proofs.YtiplihojmfbjkaaGreat
open Go.RowKit
section
variable {P:Program} {w:World}
theorem zlj {t:TypeId} {k:IntKind} (hu:P.underlying t=some (.int k)) (d:Nat) (a b:Int):(Op.equalIn (d+1) t (.int k a) (.int k b)).run P w=.ok (a==b) w:=by
  unfold Op.equalIn
  simp [run_underlying hu]
theorem zoQ {t:TypeId} (hu:P.underlying t=some .string) (d:Nat) (a b:ByteArray):(Op.equalIn (d+1) t (.string a) (.string b)).run P w=.ok (a==b) w:=by
  unfold Op.equalIn
  simp [run_underlying hu]
theorem zm7 {t:TypeId} {k:FloatKind} (hu:P.underlying t=some (.float k)) (d:Nat) (a b:Nat):(Op.equalIn (d+1) t (.float k a) (.float k b)).run P w=.ok (Op.floatEq k a b) w:=by
  unfold Op.equalIn
  simp [run_underlying hu]
theorem zmt (s:ByteArray):(s==⟨#[]⟩)=emptyS s:=by
  unfold emptyS
  rw [ByteArray.toList_eq]
  cases s with
  | mk d=>cases d with
    | mk l =>
      show ((⟨l⟩:Array UInt8) == #[])=l.isEmpty
      cases l with
      | nil=>rfl
      | cons b l=>rfl
end
theorem zo3 (k n:Int) (f:Nat) (s:ByteArray) (w:World):(Op.equal 28 (.agg #[.int .i64 k,.int .i64 n,.float .f64 f,.string s]) (.agg #[.int .i64 0,.int .i64 0,.float .f64 0,.string ⟨#[]⟩])).run Tryz.prog w=.ok (zeroV ⟨k,n,f,s⟩) w:=by
  have hs:Tryz.prog.stoodInHeld 28=false:=by kernel_rfl
  unfold Op.equal
  rw [show Op.maxDepth=9998+2 from rfl]
  generalize 9998=d
  unfold Op.equalIn
  simp only [Sem.run_bind,run_underlying Tryz.underlying28,Result.andThen_ok]
  simp [hs,part,zlj Tryz.underlying3,zlj Tryz.underlying2,zm7 Tryz.underlying26,zoQ Tryz.underlying9,zeroV,zmt]
  by_cases hk:k=0<;>by_cases hn:n=0<;>cases hf:Op.floatEq FloatKind.f64 f 0<;>cases he:emptyS s<;>simp [hk,hn]
section
variable {X:Ctx} {fr fr1:Fr} {σ σ1:Obs} {o:Oper} {ops:Array Oper} {rest:List Oper} {Q:Fr→Obs→Prop} {d:Nat} {x:VV} {xx yy:Operand} {γ:Nat→Nat} {T:Nat→Value} {S:Nat→Nat→Prop} {w:World} {a:Act}
variable {τ0 σB:Obs} {K:List Cr} {C:Cons} {QD:Fr→Obs→Prop} {j:Nat}
structure ExtV (P:Program) (f:FuncId) (args:List VV) (x:VV):Prop where
  out:∀ (S:Nat→Nat→Prop) (w:World) (vs:List Value),ArgsR S w args vs→ ∃ v,(callFunc f vs.toArray).run P w=.ok (.value v) w∧PV S w x v
theorem zps {f:FuncId} {xs:Array Operand} {ats:Array TypeId} {args:List VV} (hw:wantA ops o fr=some true) (hdst:o.dst=some d) (hd:Nat.blt d X.nt=true) (ho:o.op=.call { callee:=.value (.func f),args:=xs,argTypes:=ats })
    (ha:argsL fr xs.toList=some args) (hc:ExtV X.P f args x) (h:RL X ops rest ((d,x) :: fr) σ Q):RL X ops (o :: rest) fr σ Q :=
  ⟨fun γ T S w a K hr hk=>wpList_step fun K' hK=>by
    rw [if_pos (zam hr hw)]
    obtain ⟨v,h1,h2⟩:=hc.out S w _ (zbg hr ha)
    unfold Oper.wp
    rw [zbs ho,h1]
    refine hK _ _ (h.out γ T S w _ K ?_ hk)
    rw [hdst]
    exact hr.put (dst:=some d) hd (h2 γ T)⟩
theorem zp7 {f:FuncId} {xs:Array Operand} {ats:Array TypeId} {args:List VV} (hdst:o.dst=some d) (hd:Nat.blt d X.nt=true) (hw:wantA ops o (restr ops o fr)=some true) (ho:o.op=.call { callee:=.value (.func f),args:=xs,argTypes:=ats })
    (ha:argsL (restr ops o fr) xs.toList=some args) (hc:ExtV X.P f args x) (hm:MenOk o K x) (h:DSeq X ops τ0 σB QD (j+1) K C rest ((d,x) :: fr)):DSeq X ops τ0 σB QD j K C (o :: rest) fr :=
  zbS hdst hd hm (.inr ⟨hw,fun γ T S w a hr=>by
    obtain ⟨v,h1,h2⟩:=hc.out S w _ (zbg hr ha)
    exact .inl ⟨v,w,by rw [zbs ho];exact h1,S,za3 S w,h2 γ T⟩⟩) h
theorem zoz {f:FuncId} {xs:Array Operand} {ats:Array TypeId} {args cs:List VV} (hdst:o.dst=some d) (hd:Nat.blt d X.nt=true) (hw:wantA ops o (restr ops o fr)=some true) (ho:o.op=.call { callee:=.value xx,args:=xs,argTypes:=ats }) (hx:calleeV (restr ops o fr) xx=some (f,cs))
    (ha:argsL (restr ops o fr) xs.toList=some args) (hc:CallsV X.P f (args++cs) (.val x)) (hm:MenOk o K x) (h:DSeq X ops τ0 σB QD (j+1) K C rest ((d,x) :: fr)):DSeq X ops τ0 σB QD j K C (o :: rest) fr :=
  zbS hdst hd hm (.inr ⟨hw,fun γ T S w a hr=>by
    obtain ⟨us,hu1,hu2⟩:=zeE hr hx
    exact .inr ⟨f,_,by rw [zbN ho hu1,hc.ent],(hc.out S w _ ((zbg hr ha).app hu2) hr.st.lt).mono fun e w' ⟨v,S',h1,hb,hS,hS',hv⟩=>⟨v,h1,S',⟨hb,hS,hS'⟩,hv γ T⟩⟩⟩) h
theorem zhV {t t2:TypeId} {k n:Int} {f:Nat} {s:ByteArray} (hP:X.P=Tryz.prog) (ht:t=28) (ho:o.op=.binOp .eql t xx yy t2) (hr:Rel X γ T S w fr σ a)
    (hx:ev fr xx=some (.dat [.v (.int .i64 k),.v (.int .i64 n),.v (.float .f64 f),.v (.string s)])) (hy:ev fr yy=some (.dat [.v (.int .i64 0),.v (.int .i64 0),.v (.float .f64 0),.v (.string ⟨#[]⟩)])):(execOp a.eval o).run X.P w=.ok (.value (.bool (zeroV ⟨k,n,f,s⟩))) w:=by
  have four:∀ {x:Operand} {a1 a2 a3 a4:Value},ev fr x=some (.dat [.v a1,.v a2,.v a3,.v a4])→a.eval x=.agg #[a1,a2,a3,a4]:=fun {x a1 a2 a3 a4} hx=>by
    have:=zae hr hx
    generalize a.eval x=u at this
    cases this with
    | dat h =>
      rename_i us
      obtain ⟨hl,hv⟩:=h
      match us,hl with
      | [b1,b2,b3,b4],_ =>
        have g:∀ (j:Nat) (y:Value),[D.v a1,.v a2,.v a3,.v a4][j]?=some (.v y)→[b1,b2,b3,b4][j]?=some y:=fun j y hj=>by
          obtain ⟨u,hu,hru⟩:=hv j _ hj
          cases hru with|v _ _=>exact hu
        have e1:=g 0 a1 rfl
        have e2:=g 1 a2 rfl
        have e3:=g 2 a3 rfl
        have e4:=g 3 a4 rfl
        simp only [List.getElem?_cons_zero,List.getElem?_cons_succ,Option.some.injEq] at e1 e2 e3 e4
        rw [e1,e2,e3,e4]
  have hg:Tryz.prog.eqGuardType Tryz.prog.depth 28=false:=by kernel_rfl
  subst ht
  rw [hP]
  simp only [execOp,ho,four hx,four hy,eqGuard,binOp,Sem.run_bind,zo3,Result.andThen_ok,Sem.run_pure]
  simp [hg]
theorem zpm {t t2:TypeId} {k n:Int} {f:Nat} {s:ByteArray} (hP:X.P=Tryz.prog) (ht:t=28) (hw:wantA ops o fr=some true) (hdst:o.dst=some d) (hd:Nat.blt d X.nt=true) (ho:o.op=.binOp .eql t xx yy t2)
    (hx:ev fr xx=some (.dat [.v (.int .i64 k),.v (.int .i64 n),.v (.float .f64 f),.v (.string s)])) (hy:ev fr yy=some (.dat [.v (.int .i64 0),.v (.int .i64 0),.v (.float .f64 0),.v (.string ⟨#[]⟩)])) (h:RL X ops rest ((d,vB (zeroV ⟨k,n,f,s⟩)) :: fr) σ Q):RL X ops (o :: rest) fr σ Q :=
  ⟨fun γ T S w a K hr hk=>wpList_step fun K' hK=>by
    rw [if_pos (zam hr hw)]
    unfold Oper.wp
    rw [zhV hP ht ho hr hx hy]
    refine hK _ _ (h.out γ T S w _ K ?_ hk)
    rw [hdst]
    exact hr.put (dst:=some d) hd (.one (.v _ rfl))⟩
theorem zqa {t t2:TypeId} {k n:Int} {f:Nat} {s:ByteArray} (hP:X.P=Tryz.prog) (ht:t=28) (hdst:o.dst=some d) (hd:Nat.blt d X.nt=true) (hw:wantA ops o (restr ops o fr)=some true) (ho:o.op=.binOp .eql t xx yy t2)
    (hx:ev (restr ops o fr) xx=some (.dat [.v (.int .i64 k),.v (.int .i64 n),.v (.float .f64 f),.v (.string s)])) (hy:ev (restr ops o fr) yy=some (.dat [.v (.int .i64 0),.v (.int .i64 0),.v (.float .f64 0),.v (.string ⟨#[]⟩)])) (hm:MenOk o K (vB (zeroV ⟨k,n,f,s⟩))) (h:DSeq X ops τ0 σB QD (j+1) K C rest ((d,vB (zeroV ⟨k,n,f,s⟩)) :: fr)):DSeq X ops τ0 σB QD j K C (o :: rest) fr :=
  zbS hdst hd hm (.inr ⟨hw,fun _ _ S w _ hr=>.inl ⟨_,w,zhV hP ht ho hr hx hy,S,za3 S w,.one (.v _ rfl)⟩⟩) h
end
section
variable {w0:W0} {S0:Nat→Nat→Prop} {nt:Nat} {fr fr1:Fr} {σ σ1:Obs} {o:Oper} {ops:Array Oper} {rest:List Oper} {Q:Fr→Obs→Prop} {d k n lo c m:Nat} {x:VV} {xx yy ix p:Operand} {t ty el:TypeId} {i e:TyI} {cs ds:List D} {rows news rows':List (List D)} {ps:Array (Nat × Operand)} {sz cap:Nat}
variable {τ0 σB:Obs} {K:List Cr} {C:Cons} {QD:Fr→Obs→Prop} {j:Nat}
theorem uE {f:FuncId} {xs:Array Operand} {ats:Array TypeId} {args:List VV} (hc:ExtV Tryz.prog f args x) (h:RL (cx nt w0 S0) ops rest ((d,x) :: fr) σ Q) (ho:o.op=.call { callee:=.value (.func f),args:=xs,argTypes:=ats }:=by rfl) (hw:wantA ops o fr=some true:=by rfl) (hdst:o.dst=some d:=by rfl) (hd:Nat.blt d nt=true:=by rfl)
    (ha:argsL fr xs.toList=some args:=by rfl):RL (cx nt w0 S0) ops (o :: rest) fr σ Q:=zps (X:=cx nt w0 S0) hw hdst hd ho ha hc h
theorem mE {f:FuncId} {xs:Array Operand} {ats:Array TypeId} {args:List VV} (hc:ExtV Tryz.prog f args x) (h:DSeq (cx nt w0 S0) ops τ0 σB QD (j+1) K C rest ((d,x) :: fr)) (ho:o.op=.call { callee:=.value (.func f),args:=xs,argTypes:=ats }:=by rfl) (hw:wantA ops o (restr ops o fr)=some true:=by rfl) (hdst:o.dst=some d:=by rfl) (hd:Nat.blt d nt=true:=by rfl)
    (ha:argsL (restr ops o fr) xs.toList=some args:=by rfl) (hm:MenOk o K x:=by (repeat (first|exact zax _ _|refine zau (by first|exact Or.inl rfl|exact Or.inr rfl) ?_))):DSeq (cx nt w0 S0) ops τ0 σB QD j K C (o :: rest) fr:=zp7 (X:=cx nt w0 S0) hdst hd hw ho ha hc hm h
theorem uDc {f:FuncId} {xs:Array Operand} {ats:Array TypeId} {args cs all:List VV} (hc:CallsV Tryz.prog f all (.val x)) (h:RL (cx nt w0 S0) ops rest ((d,x) :: fr) σ Q) (ho:o.op=.call { callee:=.value xx,args:=xs,argTypes:=ats }:=by rfl) (hx:calleeV fr xx=some (f,cs):=by rfl) (hw:wantA ops o fr=some true:=by rfl) (hdst:o.dst=some d:=by rfl) (hd:Nat.blt d nt=true:=by rfl)
    (ha:argsL fr xs.toList=some args:=by rfl) (hall:args++cs=all:=by rfl):RL (cx nt w0 S0) ops (o :: rest) fr σ Q:=zmN (X:=cx nt w0 S0) ⟨x,fr,σ⟩ hw (by rw [hdst];exact hd) ho hx ha (by rw [hall];exact hc) rfl (by rw [hdst];exact h)
theorem mDc {f:FuncId} {xs:Array Operand} {ats:Array TypeId} {args cs all:List VV} (hc:CallsV Tryz.prog f all (.val x)) (h:DSeq (cx nt w0 S0) ops τ0 σB QD (j+1) K C rest ((d,x) :: fr)) (ho:o.op=.call { callee:=.value xx,args:=xs,argTypes:=ats }:=by rfl) (hx:calleeV (restr ops o fr) xx=some (f,cs):=by rfl) (hw:wantA ops o (restr ops o fr)=some true:=by rfl) (hdst:o.dst=some d:=by rfl) (hd:Nat.blt d nt=true:=by rfl)
    (ha:argsL (restr ops o fr) xs.toList=some args:=by rfl) (hall:args++cs=all:=by rfl) (hm:MenOk o K x:=by (repeat (first|exact zax _ _|refine zau (by first|exact Or.inl rfl|exact Or.inr rfl) ?_))):DSeq (cx nt w0 S0) ops τ0 σB QD j K C (o :: rest) fr:=zoz (X:=cx nt w0 S0) hdst hd hw ho hx ha (by rw [hall];exact hc) hm h
theorem uEq {t2:TypeId} {k n:Int} {f:Nat} {s:ByteArray} (b:Bool) (h:RL (cx nt w0 S0) ops rest ((d,vB b) :: fr) σ Q) (ho:o.op=.binOp .eql t xx yy t2:=by rfl) (ht:t=28:=by rfl) (hdst:o.dst=some d:=by rfl) (hd:Nat.blt d nt=true:=by rfl) (hw:wantA ops o fr=some true:=by rfl)
    (hx:ev fr xx=some (.dat [.v (.int .i64 k),.v (.int .i64 n),.v (.float .f64 f),.v (.string s)]):=by rfl) (hy:ev fr yy=some (.dat [.v (.int .i64 0),.v (.int .i64 0),.v (.float .f64 0),.v (.string ⟨#[]⟩)]):=by rfl) (hb:zeroV ⟨k,n,f,s⟩=b:=by assumption):RL (cx nt w0 S0) ops (o :: rest) fr σ Q :=
  zpm (X:=cx nt w0 S0) rfl ht hw hdst hd ho hx hy (hb ▸ h)
theorem mEq {t2:TypeId} {k n:Int} {f:Nat} {s:ByteArray} (b:Bool) (h:DSeq (cx nt w0 S0) ops τ0 σB QD (j+1) K C rest ((d,vB b) :: fr)) (ho:o.op=.binOp .eql t xx yy t2:=by rfl) (ht:t=28:=by rfl) (hdst:o.dst=some d:=by rfl) (hd:Nat.blt d nt=true:=by rfl) (hw:wantA ops o (restr ops o fr)=some true:=by rfl)
    (hx:ev (restr ops o fr) xx=some (.dat [.v (.int .i64 k),.v (.int .i64 n),.v (.float .f64 f),.v (.string s)]):=by rfl) (hy:ev (restr ops o fr) yy=some (.dat [.v (.int .i64 0),.v (.int .i64 0),.v (.float .f64 0),.v (.string ⟨#[]⟩)]):=by rfl) (hb:zeroV ⟨k,n,f,s⟩=b:=by assumption) (hm:MenOk o K (vB b):=by (repeat (first|exact zax _ _|refine zau (by first|exact Or.inl rfl|exact Or.inr rfl) ?_))):DSeq (cx nt w0 S0) ops τ0 σB QD j K C (o :: rest) fr :=
  zqa (X:=cx nt w0 S0) rfl ht hdst hd hw ho hx hy (by rw [hb];exact hm) (hb ▸ h)
theorem uFz (L:List (Nat × List D)) (h:RL (cx nt w0 S0) ops rest fr1 σ1 Q) (hk:fzOk σ L:=by (repeat (first|exact zlW|refine zjI (by rfl) (by rfl) ?_))) (hf:fzF L fr=fr1:=by rfl) (hs:junkL L σ=σ1:=by rfl):RL (cx nt w0 S0) ops rest fr σ Q :=
  zqk (X:=cx nt w0 S0) L hk (by rw [hf,hs];exact h)
theorem uFzW {cd:Code} {QQ:Exit→Fr→Obs→Prop} (L:List (Nat × List D)) (h:W (cx nt w0 S0) cd fr1 σ1 QQ) (hk:fzOk σ L:=by (repeat (first|exact zlW|refine zjI (by rfl) (by rfl) ?_))) (hf:fzF L fr=fr1:=by rfl) (hs:junkL L σ=σ1:=by rfl):W (cx nt w0 S0) cd fr σ QQ :=
  W_fz (X:=cx nt w0 S0) L hk (by rw [hf,hs];exact h)
theorem uMk {lx cx':Operand} {z:Int} {zs:List D} (n:Nat) (h:RL (cx nt w0 S0) ops rest ((d,.one (.win d 0 n n sz)) :: fr1) ((d,.arr el sz (List.replicate n zs)) :: σ1) Q) (ho:o.op=.makeSlice t lx cx':=by rfl) (hw:wantA ops o fr=some true:=by rfl) (hdst:o.dst=some d:=by rfl) (hd:Nat.blt d nt=true:=by rfl)
    (h1:(ev fr lx).bind intV=some z:=by rfl) (h2:(ev fr cx').bind intV=some z:=by rfl) (hz:z=(n:Int):=by first|rfl|assumption|omega) (hi:Ty t=some i:=by rfl) (htag:i.tag=2:=by rfl) (hel:i.elem=el:=by rfl) (he:Ty el=some e:=by rfl) (hsz:e.size=sz:=by rfl) (hzs:e.zero.map zc=zs:=by first|((try simp only [zc,isNil,List.map_cons,List.map_nil,Bool.false_eq_true,if_false,if_true,reduceIte])<;>rfl)|rfl) (hb:n * e.bytes≤281474976710656:=by first|decide|(simp only [List.length_map,List.length_append,List.length_take,List.length_drop,List.length_cons,List.length_nil];omega))
    (hf:stripF d fr=fr1:=by exact strxA) (hs:stripS d σ=σ1:=by exact strxA):RL (cx nt w0 S0) ops (o :: rest) fr σ Q:=by
  subst hel;subst hsz;subst hzs
  exact zpi (X:=cx nt w0 S0) zad hw hdst hd ho (by rw [h1,hz]) (by rw [h2,hz]) hi htag he hb (hf ▸ hs ▸ h)
theorem uWl (h:RL (cx nt w0 S0) ops rest ((d,vI (n:Int)) :: fr) σ Q) (ho:o.op=.call { callee:=.builtin .len,args := #[xx],argTypes := #[t] }:=by rfl) (hw:wantA ops o fr=some true:=by rfl) (hdst:o.dst=some d:=by rfl) (hd:Nat.blt d nt=true:=by rfl) (h1:ev fr xx=some (.one (.win k lo n c sz)):=by rfl) (hi:Ty t=some i:=by rfl) (htag:i.tag=2:=by rfl):RL (cx nt w0 S0) ops (o :: rest) fr σ Q :=
  zoJ (X:=cx nt w0 S0) zad hw hdst hd ho h1 hi htag h
theorem uCp {dT sT:TypeId} {y:VV} (rows':List (List D)) (m:Nat) (h:RL (cx nt w0 S0) ops rest ((d,vI (m:Int)) :: fr) ((k,.arr el sz rows') :: σ) Q) (hrows:rows.take lo++news.take m++rows.drop (lo+m)=rows') (hm:Nat.min news.length n=m) (hin:lo+n≤rows.length) (ho:o.op=.call { callee:=.builtin .copy,args := #[xx,yy],argTypes := #[dT,sT] }:=by rfl) (hw:wantA ops o fr=some true:=by rfl) (hdst:o.dst=some d:=by rfl) (hd:Nat.blt d nt=true:=by rfl)
    (h1:ev fr xx=some (.one (.win k lo n cap sz)):=by rfl) (hk:look σ k=some (.arr el sz rows):=by rfl) (h2:ev fr yy=some y:=by rfl) (hx:srcV y σ=some news:=by rfl) (hs:sized sz news=true:=by first|rfl|exact zaY _|exact zai _|exact zaU _|assumption|exact zaK _ (zai _)|exact zaJ _ (zai _)|exact zah (by assumption) rfl|exact zah (zah rfl (zai _)) rfl|exact zah rfl (zai _)|(simp only [sized,List.all_append,List.all_cons,List.all_nil,List.all_map,Bool.and_true,Bool.and_self,zal];rfl)|(simp [sized,zal,encS];done)|simp [sized,zan]) (hwin:∀ k lo n c sz',y=.one (.win k lo n c sz')→sz'=sz:=by first|(intro k lo n c sz' h;cases h;done)|(intro k lo n c sz' h;cases h;rfl)) (hi:Ty dT=some i:=by rfl) (htag:i.tag=2:=by rfl) (hie:i.elem=el:=by rfl) (he:Ty el=some e:=by rfl) (hsz:e.size=sz:=by rfl):RL (cx nt w0 S0) ops (o :: rest) fr σ Q :=
  zqf (X:=cx nt w0 S0) zad hw hdst hd ho h1 hk h2 hx hs hwin hi htag hie he hsz hin hm hrows h
theorem mWs {lo' hi':Option Operand} (l h:Nat) (x:VV) (hq:DSeq (cx nt w0 S0) ops τ0 σB QD (j+1) K C rest ((d,x) :: fr)) (hx:winS k lo c sz l h=x) (hle:l≤h∧h≤n∧n≤c) (ho:o.op=.slice t xx lo' hi' none:=by rfl) (hdst:o.dst=some d:=by rfl) (hd:Nat.blt d nt=true:=by rfl) (hw:wantA ops o (restr ops o fr)=some true:=by rfl)
    (h1:ev (restr ops o fr) xx=some (.one (.win k lo n c sz)):=by rfl) (hl:optI (restr ops o fr) lo'=some (if lo'.isSome then some (l:Int) else none):=by rfl) (hh:optI (restr ops o fr) hi'=some (if hi'.isSome then some (h:Int) else none):=by rfl) (hl0:lo'=none→l=0:=by first|(intro h;cases h;done)|(intro _;rfl)) (hh0:hi'=none→h=n:=by first|(intro h;cases h;done)|(intro _;rfl)) (hi:Ty t=some i:=by rfl) (htag:i.tag=2:=by rfl) (he:Ty i.elem=some e:=by rfl) (hsz:e.size=sz:=by rfl) (hm:MenOk o K x:=by (repeat (first|exact zax _ _|refine zau (by first|exact Or.inl rfl|exact Or.inr rfl) ?_))):DSeq (cx nt w0 S0) ops τ0 σB QD j K C (o :: rest) fr :=
  D_ws (X:=cx nt w0 S0) zad hdst hd hw ho h1 hl hh hl0 hh0 hi htag he hsz hle hx hm hq
theorem mCp {dT sT:TypeId} {y:VV} (rows':List (List D)) (m:Nat) (h:DSeq (cx nt w0 S0) ops τ0 σB QD (j+1) K ((k,some (.arr el sz rows')) :: C) rest ((d,vI (m:Int)) :: fr)) (hx:srcV y [(k,.arr el sz rows)]=some news) (hs:sized sz news=true) (hrows:rows.take lo++news.take m++rows.drop (lo+m)=rows') (hm:Nat.min news.length n=m) (hin:lo+n≤rows.length) (ho:o.op=.call { callee:=.builtin .copy,args := #[xx,yy],argTypes := #[dT,sT] }:=by rfl) (hdst:o.dst=some d:=by rfl) (hd:Nat.blt d nt=true:=by rfl) (hw:wantA ops o (restr ops o fr)=some true:=by rfl)
    (h1:ev (restr ops o fr) xx=some (.one (.win k lo n cap sz)):=by rfl) (hkt:(k,Ob.arr el sz rows)∈τ0:=by exact List.mem_cons_self) (hkB:look σB k=none:=by rfl) (hkC:hasC C k=false:=by rfl) (h2:ev (restr ops o fr) yy=some y:=by rfl) (hwin:∀ k lo n c sz',y=.one (.win k lo n c sz')→sz'=sz:=by first|(intro k lo n c sz' h;cases h;done)|(intro k lo n c sz' h;cases h;rfl)) (hi:Ty dT=some i:=by rfl) (htag:i.tag=2:=by rfl) (hie:i.elem=el:=by rfl) (he:Ty el=some e:=by rfl) (hsz:e.size=sz:=by rfl) (hmen:MenOk o K (vI (m:Int)):=by (repeat (first|exact zax _ _|refine zau (by first|exact Or.inl rfl|exact Or.inr rfl) ?_))):DSeq (cx nt w0 S0) ops τ0 σB QD j K C (o :: rest) fr :=
  D_cp (X:=cx nt w0 S0) zad hdst hd hw ho h1 hkt hkB hkC h2 hx hs hwin hi htag hie he hsz hin hm hrows hmen h
theorem uArrTok {cd:Code} {QQ:Exit→Fr→Obs→Prop} (t k:Nat) (h:W (cx nt w0 S0) cd ((t,.one (.own k rows)) :: fr1) ((k,.tok el sz) :: σ1) QQ) (hn:n=rows.length) (hlim:rows.length≤281474976710656) (hl:look fr t=some (.one (.win k 0 n n sz)):=by rfl) (hk:look σ k=some (.arr el sz rows):=by rfl) (hf:stripF k fr=fr1:=by exact strxA) (hs:stripS k σ=σ1:=by exact strxA):W (cx nt w0 S0) cd fr σ QQ :=
  zlQ t k hl hk hn hn hlim (hf ▸ hs ▸ h)
end
end Go.Proofs.YtiplihojmfbjkaaGreat
