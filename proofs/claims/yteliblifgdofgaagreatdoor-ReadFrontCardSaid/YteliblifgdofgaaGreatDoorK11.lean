/- Parts of the proof, one behind the other. No further condition. -/
import Derived.Test.YteliblifgdofgaaGreatDoorK10
import Derived.RangeFuncRecord
import Derived.Test.YteliblifgdofgaaGreatDoorK07
import Derived.Test.YteliblifgdofgaaGreatDoorK09
set_option linter.unusedVariables false
set_option linter.unusedSimpArgs false
set_option maxRecDepth 100000
set_option maxHeartbeats 8000000
namespace Go.Ab
open Go.RowKit
theorem jC {μ:Mu} {F:c8} {M:aG} {w w':World} (h:dY μ F M w) (hb:Below w.heap.size w w') {o:Obj} {vs:Array Value} {t:List (Nat×AV)} {b:Nat} (hnew:w.heap.size≤b)
  (hc:w'.heap[b]? =some o) (hr:∀i,bP μ F w ((aJ t i).getD .top) (vs.getD i undef)):
  dQ w μ w' (μ.put M.next (.at b))∧dY (μ.put M.next (.at b)) F (M.push (.raw none o vs t)) w':=by
 have hn:=lH h
 have hown:∀k o,jG (μ.put M.next (.at b)) k o→k=b∨jG μ k o:=by
  rintro k o ⟨id,h1|⟨e,g,h1,he⟩⟩
  ·unfold Mu.put at h1
   split at h1
   ·cases h1;exact .inl rfl
   ·exact .inr ⟨id,.inl h1⟩
  ·unfold Mu.put at h1
   split at h1
   ·cases h1
   ·exact .inr ⟨id,.inr ⟨e,g,h1,he⟩⟩
 have hev:dQ w μ w' (μ.put M.next (.at b)):=dQ.push hb hn fun k o ho hk=>by
  rcases hown k o ho with rfl|ho
  ·omega
  ·exact ho
 refine⟨hev,?_,?_,?_,?_,?_,?_,?_⟩
 ·intro id
  have:=h.dom id
  unfold Mu.put aG.push
  simp only
  split
  ·rename_i e;subst e;simp
  ·rename_i e
   rw[this]
   omega
 ·intro id l' hl
  rw[aG.get_push] at hl
  split at hl
  ·cases hl
  ·rename_i e
   obtain⟨b',c',ty',h1,h2,h3,h4,h5⟩:=h.obj id l' hl
   have hlt:b' < w.heap.size:=(Array.getElem?_eq_some_iff.1 h2).1
   exact⟨b',c',ty',by simp[Mu.put,e,h1],(hb.block b' hlt).trans h2,h3,h4,fun i x v hx hv=>(h5 i x v hx hv).evo hev⟩
 ·intro id g hl
  rw[aG.get_push] at hl
  split at hl
  ·cases hl
  ·rename_i e
   obtain⟨p,h1,h2⟩:=h.spare id g hl
   refine⟨p,by simp[Mu.put,e,h1],fun b' e' hp=>?_⟩
   obtain⟨c',ty',fr,h3,h4,h5⟩:=h2 b' e' hp
   have hlt:b' < w.heap.size:=(Array.getElem?_eq_some_iff.1 h3).1
   exact⟨c',ty',fr,(hb.block b' hlt).trans h3,h4,h5⟩
 ·have lie:∀i k,dH (μ.put M.next (.at b)) i k→(i=M.next∧k=b)∨dH μ i k:=by
   rintro i k (h1|⟨e,g,h1⟩)
   ·unfold Mu.put at h1
    split at h1
    ·cases h1;exact .inl ⟨by assumption,rfl⟩
    ·exact .inr (.inl h1)
   ·unfold Mu.put at h1
    split at h1
    ·cases h1
    ·exact .inr (.inr ⟨e,g,h1⟩)
  have old:∀i k,dH μ i k→k < w.heap.size:=by
   rintro i k (h1|⟨e,g,h1⟩)
   ·exact h.fit.own k 0 ⟨i,.inl h1⟩
   ·exact h.fit.own k e ⟨i,.inr ⟨e,g,h1,Nat.le_refl _⟩⟩
  intro i j k hi hj
  rcases lie i k hi with ⟨h1,h2⟩|h1<;>rcases lie j k hj with ⟨h3,h4⟩|h3
  ·exact h1.trans h3.symm
  ·have:=old j k h3;omega
  ·have:=old i k h1;omega
  ·exact h.inj i j k h1 h3
 ·intro k o ho hF
  rcases hown k o ho with rfl|ho
  ·have:=h.fit.frm k o hF;omega
  ·exact h.frm k o ho hF
 ·refine⟨fun k o ho=>?_,fun k o hF=>Nat.lt_of_lt_of_le (h.fit.frm k o hF) hb.size⟩
  rcases hown k o ho with rfl|ho
  ·exact (Array.getElem?_eq_some_iff.1 hc).1
  ·exact Nat.lt_of_lt_of_le (h.fit.own k o ho) hb.size
 ·intro id gg o' vs' t' hl
  rw[aG.get_push] at hl
  split at hl
  ·rename_i e
   cases hl
   exact⟨b,by simp[lY,Mu.put,e],hc,fun i=>(hr i).evo hev⟩
  ·rename_i e
   obtain⟨b',h1,h2,h3⟩:=h.raw id gg o' vs' t' hl
   have hlt:b' < w.heap.size:=(Array.getElem?_eq_some_iff.1 h2).1
   exact⟨b',h1.congr (by simp[Mu.put,e]),(hb.block b' hlt).trans h2,fun i=>(h3 i).evo hev⟩
theorem CC (w:World) (b:Nat) (o:Obj):w6 w b (w.putObj b o):=⟨rfl,rfl,rfl,by simp,fun k hk=>World.putObj_heap_other hk⟩
theorem o7 {μ:Mu} {F:c8} {M:aG} {w:World} (h:dY μ F M w) {id b:Nat} {o:Obj} {vs:Array Value} {t:List (Nat×AV)} (hM:M.get id=some (.raw none o vs t)) (hid:μ id=some (.at b)) (o':Obj) (hno:∀c ty fr,o≠.cells c ty fr):
  w.heap[b]? =some o∧dQ w μ (w.putObj b o') μ∧dY μ F (M.set id (.raw none o' vs t)) (w.putObj b o'):=by
 obtain⟨b0,k1,k2,k3⟩:=h.raw id none o vs t hM
 have k1:μ id=some (.at b0):=k1
 rw[hid] at k1
 cases k1
 have hw:=CC w b o'
 have hlt:b < w.heap.size:=(Array.getElem?_eq_some_iff.1 k2).1
 have hev:dQ w μ (w.putObj b o') μ:=by
  refine⟨hw.os,hw.tape,hw.output,Nat.le_of_eq hw.size.symm,fun _ _=>.inl rfl,?_,?_,fun _ _ _ h=>h⟩
  ·intro k hk hn
   refine hw.other k ?_
   rintro rfl
   exact hn 0 ⟨id,.inl hid⟩
  ·intro k e c' ty' fr hk hn hc'
   by_cases hkb:k=b
   ·subst hkb
    rw[k2] at hc'
    cases hc'
    exact absurd rfl (hno _ _ _)
   ·exact⟨c',fr,(hw.other k hkb).trans hc',rfl,fun _ _=>rfl⟩
 refine⟨k2,hev,h.dom,?_,?_,h.inj,h.frm,⟨fun k o ho=>by rw[hw.size];exact h.fit.own k o ho,fun k o ho=>by rw[hw.size];exact h.fit.frm k o ho⟩,?_⟩
 ·intro i l' hl
  rw[aG.get_set] at hl
  split at hl
  ·cases hl
  ·rename_i e
   obtain⟨b',c',ty',h1,h2,h3,h4,h5⟩:=h.obj i l' hl
   have hne:b'≠b:=by
    rintro rfl
    exact e (h.inj i id b' (.inl h1) (.inl hid))
   exact⟨b',c',ty',h1,(hw.other b' hne).trans h2,h3,h4,fun i x v hx hv=>(h5 i x v hx hv).evo hev⟩
 ·intro i g hl
  rw[aG.get_set] at hl
  split at hl
  ·cases hl
  ·rename_i e
   obtain⟨p,h1,h2⟩:=h.spare i g hl
   refine⟨p,h1,fun b' e' hp=>?_⟩
   obtain⟨c',ty',fr,h3,h4,h5⟩:=h2 b' e' hp
   have hne:b'≠b:=by
    rintro rfl
    subst hp
    exact e (h.inj i id b' (.inr ⟨e',g,h1⟩) (.inl hid))
   exact⟨c',ty',fr,(hw.other b' hne).trans h3,h4,h5⟩
 ·intro i gg o2 vs2 t2 hl
  rw[aG.get_set] at hl
  split at hl
  ·rename_i e
   cases hl
   subst e
   exact⟨b,hid,World.putObj_heap_same hlt,fun i=>(k3 i).evo hev⟩
  ·rename_i e
   obtain⟨b',h1,h2,h3⟩:=h.raw i gg o2 vs2 t2 hl
   have hne:b'≠b:=by
    rintro rfl
    exact e (h.inj i id b' h1.lies (.inl hid))
   exact⟨b',h1,(hw.other b' hne).trans h2,fun i=>(h3 i).evo hev⟩
def fH (P:Program) (y:Nat) (args:List AV) (M:aG) (R:cH→aG→Prop):Prop:=
 ∀(r:Option Nat) (μ:Mu) (F:c8) (w:World) (vs:Array Value) (b:Nat),dY μ F M w→μ y=some (.at b)→cN μ F w args vs→
  ∃fn tmps assign body,(Instr.yield b vs).run P w=.ok (.round b fn tmps assign body) w∧RoundIn (xR r) 8 P b fn tmps assign body w (j5 F μ w R)
theorem fH.mono {P:Program} {y:Nat} {args:List AV} {M:aG} {R R':cH→aG→Prop} (h:fH P y args M R) (hr:∀e M,R e M→R' e M):fH P y args M R':=by
 intro r μ F w vs b hg hb hv
 obtain⟨fn,tmps,assign,body,h1,h2⟩:=h r μ F w vs b hg hb hv
 refine⟨fn,tmps,assign,body,h1,h2.mono ?_⟩
 rintro e w' ⟨μ',M',k1,k2,k3⟩
 refine⟨μ',M',k1,k2,?_⟩
 cases e with
 |returned v=>obtain⟨x,h4,h5⟩:=k3;exact⟨x,h4,hr _ _ h5⟩
 |panicked ch=>obtain⟨x,v,h4,h5,h6⟩:=k3;exact⟨x,v,h4,h5,hr _ _ h6⟩
 |outgrown=>exact k3
theorem fH.le {P:Program} {y:Nat} {args:List AV} {M N:aG} {R:cH→aG→Prop} (hM:N.le M) (h:fH P y args N R):fH P y args M R:=
 fun r μ F w vs b hg hb hv=>h r μ F w vs b (hg.le hM) hb hv
theorem MY {r:Option Nat} {P:Program} {o:Oper} {a:Act} {w w':World} {next:Act→World→Prop} {Q:Exit→Act→World→Prop} {l:Nat} {f:FuncId} {tmps:Array Value} {assign body:Code}
  (h:(execOp a.eval o).run P w=.ok (.round l f tmps assign body) w')
  (hk:RoundIn (xR r) 8 P l f tmps assign body w' fun
   |.returned v,w''=>next (a.put o.dst v) w''
   |.panicked chain,w''=>Q (.panic chain) a w''
   |.outgrown,_=>LetsOut Q):o.wpIn (xR r) 9 P a w next Q:=by
 refine⟨fun _ _=>trivial,?_⟩
 have:=D5 (r:=r) h (by intro d e;cases e)
 show o.uponIn (xR r) 9 P a next Q ((o.semAt r a.eval).run P w)
 rw[this]
 exact⟨fun h=>(by cases h),hk⟩
theorem SS {P:Program} {o:Oper} {x:Operand} {ags:Array Operand} {ts:Array TypeId} (ho:o.op=.call {callee:=.value x,args:=ags,argTypes:=ts}) {ρ:Operand→AV} {M:aG} {y:Nat} {ob:Obj} {vs:Array Value} {t:List (Nat×AV)}
  (hx:ρ x=.yld y) (hM:M.get y=some (.raw none ob vs t)) {R:cH→aG→Prop} (hc:fH P y (ags.toList.map ρ) M R) {K Kp:AV→aG→Prop} (h1:∀u M',R (.ret u) M'→K u M') (h2:∀u M',R (.pan u) M'→Kp u M'):G5 P o ρ M K Kp:=by
 intro r μ F w a hg hr next Q' g1 g2
 have hv:=hr x (by simp[ho,Op.operands,Call.operands])
 rw[hx] at hv
 obtain⟨b,hb,_,_⟩:=hg.raw y none ob vs t hM
 have he:a.eval x=.func (.yield b) #[] #[]:=by
  generalize a.eval x=u at hv
  cases hv with
  |yld _ _ _ _ h3=>exact h3 b hb
 have hargs:cN μ F w (ags.toList.map ρ) (ags.map a.eval):=cN.map fun y hy=>hr y (by simp[ho,Op.operands,Call.operands,hy])
 obtain⟨fn,tmps,assign,body,k1,k2⟩:=hc r μ F w _ b hg hb hargs
 have hrun:(execOp a.eval o).run P w=.ok (.round b fn tmps assign body) w:=by
  simp[execOp,ho,resolve,he,Deferred.ofValue,invoke,k1]
 refine MY hrun (k2.mono ?_)
 rintro e w' ⟨μ',M',e1,e2,e3⟩
 cases e with
 |returned v=>
  obtain⟨u,e4,e5⟩:=e3
  exact g1 μ' M' w' v u e1 e2 e4 (h1 u M' e5)
 |panicked ch=>
  obtain⟨u,v,rfl,e4,e5⟩:=e3
  exact g2 μ' M' w' v u e1 e2 e4 (h2 u M' e5)
 |outgrown=>exact e3.elim
section
variable {P:Program} {ops:Array Oper} {cls:Nat→fQ} {Q:AX→AF→aG→Prop} {ds:List bJ} {ls:List Nat} {i:Nat} {t:List (Nat×AV)} {M:aG}
def a4v (ops:Array Oper) (cls:Nat→fQ) (ds:List bJ) (i:Nat) (t:List (Nat×AV)):Option (Option Nat×Nat×List AV):=
 match ops[i]? with
 |some o=>(match aT ops ⟨t,ds⟩ o,cls i,o.op with
  |some true,.Y,.call {callee:=.value y,args:=ags,argTypes:=_}=>(match AF.ev ⟨t,ds⟩ y with
   |.yld id=>some (o.dst,id,ags.toList.map (AF.ev ⟨t,ds⟩))
   |_=>none)
  |_,_,_=>none)
 |none=>none
theorem a2v {d:Nat} {y:Nat} {args:List AV} {R:cH→aG→Prop} (hs:a4v ops cls ds i t=some (some d,y,args)) {ob:Obj} {vs:Array Value} {t0:List (Nat×AV)} (hM:M.get y=some (.raw none ob vs t0)) (hcall:fH P y args M R)
  (h1:∀u M',R (.ret u) M'→DW P ops cls Q ds ls ((d,u)::t) M') (h2:∀u M',R (.pan u) M'→Q (.panic u) ⟨dD ds,ds⟩ M'):DW P ops cls Q ds (i::ls) t M:=by
 unfold a4v at hs
 split at hs
 ·rename_i o hi
  split at hs
  ·rename_i yy ags ts hw hcl ho
   split at hs
   ·rename_i id hx
    simp only[Option.some.injEq,Prod.mk.injEq] at hs
    obtain⟨hd,rfl,rfl⟩:=hs
    refine eN hi hw ?_
    rw[hcl]
    refine SS ho hx hM hcall ?_ h2
    intro u M' hu
    have:=h1 u M' hu
    simpa [AF.put,hd] using this
   ·cases hs
  ·cases hs
 ·cases hs
end
def eO (fn:FuncId) (tmps:Array Value) (ps:Array Tmp) (assign body:Code) (D:Nat) (st:LoopState) (pe:Option Code):Loop:=
 {state:=st,pending:=pe,fn,tmps,params:=ps,assign,body,defers:=D}
def J3:List Nat→List AV→List (Nat×AV)→List (Nat×AV)
 |p::ps,a::avs,t=>J3 ps avs ((p,a)::t)
 |_,_,t=>t
theorem OX {μ:Mu} {F:c8} {w:World}:∀(ps:List Nat) (avs:List AV) (vs:List Value) (t:List (Nat×AV)) (tm:Array Value),ps.length=avs.length→vs.length=avs.length→(∀p,p∈ps→p < tm.size)→
  (∀(i:Nat) (x:AV) (v:Value),avs[i]? =some x→vs[i]? =some v→bP μ F w x v)→(∀i,bP μ F w ((aJ t i).getD .top) (tm.getD i undef))→
  ∀i,bP μ F w ((aJ (J3 ps avs t) i).getD .top) (((ps.zip vs).foldl (fun (tm:Array Value) (p:Nat×Value)=>tm.setIfInBounds p.1 p.2) tm).getD i undef)
 |[],[],[],t,tm,_,_,_,_,h=>h
 |p::ps,a::avs,v::vs,t,tm,h1,h2,h3,h4,h=>by
  simp only[List.zip_cons_cons,List.foldl_cons,J3]
  refine OX ps avs vs _ _ (by simpa using h1) (by simpa using h2) (fun q hq=>by rw[Array.size_setIfInBounds];exact h3 q (by simp[hq])) (fun i x u hx hu=>h4 (i+1) x u (by simpa using hx) (by simpa using hu)) ?_
  intro i
  simp only[aJ]
  by_cases e:i=p
  ·subst e
   have:=h3 i (by simp)
   simp only[if_true,Option.getD_some]
   rw[Array.getD_eq_getD_getElem?,Array.getElem?_setIfInBounds]
   simp only[this,if_true,Option.getD_some]
   exact h4 0 a v rfl rfl
  ·rw[if_neg e,Array.getD_eq_getD_getElem?,Array.getElem?_setIfInBounds_ne (Ne.symm e),←Array.getD_eq_getD_getElem?]
   exact h i
 |[],_::_,_,_,_,h1,_,_,_,_=>by simp at h1
 |_::_,[],_,_,_,h1,_,_,_,_=>by simp at h1
 |[],[],_::_,_,_,_,h2,_,_,_=>by simp at h2
 |_::_,_::_,[],_,_,_,h2,_,_,_=>by simp at h2
theorem GW:∀(l:List (Nat×Value)) (tm:Array Value),(l.foldl (fun (tm:Array Value) (p:Nat×Value)=>tm.setIfInBounds p.1 p.2) tm).size=tm.size
 |[],_=>rfl
 |_::l,tm=>by rw[List.foldl_cons,GW l];simp
def a7p (y:Nat) (fn:FuncId) (tmps:Array Value) (ps:Array Tmp) (assign body:Code) (D:Nat) (t:List (Nat×AV)) (R:cH→aG→Prop):AX→AF→aG→Prop
 |.normal,_,M=>M.get y=some (.raw none (.loop (eO fn tmps ps assign body D .busy none)) tmps t)∧R (.ret (.bool true)) (M.set y (.raw none (.loop (eO fn tmps ps assign body D .ready none)) tmps t))
 |.ret,_,M=>M.get y=some (.raw none (.loop (eO fn tmps ps assign body D .busy none)) tmps t)∧R (.ret (.bool false)) (M.set y (.raw none (.loop (eO fn tmps ps assign body D .done (some .ret))) tmps t))
 |.exit id,_,M=>M.get y=some (.raw none (.loop (eO fn tmps ps assign body D .busy none)) tmps t)∧R (.ret (.bool false)) (M.set y (.raw none (.loop (eO fn tmps ps assign body D .done (some (.exit id)))) tmps t))
 |.panic _,_,_=>False
theorem qT {P:Program} {y:Nat} {args:List AV} {M:aG} {R:cH→aG→Prop} {fn:FuncId} {tmps:Array Value} {ps:Array Tmp} {assign body:Code} {D n:Nat} {t:List (Nat×AV)}
  (hM:M.get y=some (.raw none (.loop (eO fn tmps ps assign body D .ready none)) tmps t)) (hn:tmps.size=n) (hp:ps.toList.length=args.length) (hps:(ps.toList.all fun p=>decide (p < n))=true)
  (h:∀l,W (some l) P n assign (sK (fun f1 M1=>M1.get y=some (.raw none (.loop (eO fn tmps ps assign body D .ready none)) tmps t)∧W (some l) P n body (a7p y fn tmps ps assign body D t R) f1 (M1.set y (.raw none (.loop (eO fn tmps ps assign body D .busy none)) tmps t))) (fun _ _ _=>False)) ⟨J3 ps.toList args t,[]⟩ M):
  fH P y args M R:=by
 intro r μ F w vs b hg hb hv
 obtain⟨hl,_,_⟩:=o7 hg hM hb (.loop (eO fn tmps ps assign body D .busy none)) (by intro c ty fr e;cases e)
 obtain⟨b0,k1,_,k3⟩:=hg.raw y _ _ _ _ hM
 have hsz:vs.size=ps.size:=by rw[hv.1,←hp];simp
 refine⟨fn,_,assign,body,run_yield hl hsz,?_⟩
 refine roundIn_of_wpIn (F:=xR r) (n:=8) trivial ?_
 suffices key:∀tm:Array Value,tm=(ps.toList.zip vs.toList).foldl (fun (tm:Array Value) (p:Nat×Value)=>tm.setIfInBounds p.1 p.2) tmps→assign.wpIn (xR (some b)) 9 P (Exit.then (fun a₁ w₁=>∃w₂,(Instr.beginRound b).run P w₁=.ok () w₂∧body.wpIn (xR (some b)) 8 P (roundPost P b (j5 F μ w R)) a₁ w₂) (fun _ _ _=>False)) {tmps:=tm,defers:=[]} w by
  refine YI (r:=some b) (n:=9) (key _ ?_)
  rw[←Array.toList_zip,Array.foldl_toList]
  rfl
 intro tm htm
 have hfr:gX μ F w n ⟨J3 ps.toList args t,[]⟩ {tmps:=tm,defers:=[]}:=by
  subst htm
  refine⟨by rw[GW,hn],?_,trivial,fun p hp=>by cases hp⟩
  intro i
  refine OX _ _ _ _ _ hp (by rw[Array.length_toList,hv.1]) (fun p hp=>?_) (fun i x v hx hu=>hv.2 i x v hx (by simpa using hu)) k3 i
  rw[hn]
  exact of_decide_eq_true (List.all_eq_true.1 hps p hp)
 refine wpIn_mono ((h b).run μ F w _ hg hfr) ?_
 rintro e a' w' ⟨μ',f',M',x,h1,h2,h3,h4,h5⟩
 cases e with
 |normal=>
  cases x<;>simp only[FV] at h4
  obtain⟨g1,g2⟩:=h5
  obtain⟨b1,m1,m2,_⟩:=h2.raw y _ _ _ _ g1
  have hbb:b1=b:=by
   rcases h1.mu y (by rw[hb];simp) with h|h|⟨_,_,_,_,h,_⟩
   ·rw[m1,hb] at h;cases h;rfl
   ·rw[m1] at h;cases h
   ·rw[hb] at h;cases h
  subst hbb
  obtain⟨_,e2,e3⟩:=o7 h2 g1 m1 (.loop (eO fn tmps ps assign body D .busy none)) (by intro c ty fr e;cases e)
  refine⟨w'.putObj b1 (.loop (eO fn tmps ps assign body D .busy none)),run_beginRound m2 rfl,?_⟩
  refine YI (r:=some b1) (n:=9) (wpIn_mono (g2.run μ' F _ a' e3 (h3.evo e2)) ?_)
  have fin:∀(jump:Option Code) (M2:aG) (μ2:Mu) (w2:World),dQ (w'.putObj b1 (.loop (eO fn tmps ps assign body D .busy none))) μ' w2 μ2→dY μ2 F M2 w2→M2.get y=some (.raw none (.loop (eO fn tmps ps assign body D .busy none)) tmps t)→
    R (.ret (.bool jump.isNone)) (M2.set y (.raw none (.loop (eO fn tmps ps assign body D (if jump.isNone then .ready else .done) jump)) tmps t))→
    ∃v w3,(Instr.endRound b1 jump).run P w2=.ok v w3∧j5 F μ w R (.returned v) w3:=by
   intro jump M2 μ2 w2 q1 q2 q3 q4
   obtain⟨b2,n1,n2,_⟩:=q2.raw y _ _ _ _ q3
   have hbb:b2=b1:=by
    rcases q1.mu y (by rw[m1];simp) with h|h|⟨_,_,_,_,h,_⟩
    ·rw[n1,m1] at h;cases h;rfl
    ·rw[n1] at h;cases h
    ·rw[m1] at h;cases h
   subst hbb
   obtain⟨_,e5,e6⟩:=o7 q2 q3 n1 (.loop (eO fn tmps ps assign body D (if jump.isNone then .ready else .done) jump)) (by intro c ty fr e;cases e)
   exact⟨_,_,run_endRound jump n2,μ2,_,((h1.trans e2).trans q1).trans e5,e6,_,.bool _,q4⟩
  rintro e a2 w2 ⟨μ2,f2,M2,x2,q1,q2,q3,q4,q5⟩
  cases e with
  |normal=>cases x2<;>simp only[FV] at q4;exact fin none M2 μ2 w2 q1 q2 q5.1 q5.2
  |exit id=>cases x2<;>simp only[FV] at q4;subst q4;exact fin (some (.exit id)) M2 μ2 w2 q1 q2 q5.1 q5.2
  |goto l=>cases x2<;>exact q4.elim
  |ret=>cases x2<;>simp only[FV] at q4;exact fin (some .ret) M2 μ2 w2 q1 q2 q5.1 q5.2
  |panic ch=>cases x2<;>first|exact q4.elim|exact q5.elim
  |outgrown=>cases x2<;>exact q4.elim
 |exit id=>cases x<;>first|exact h4.elim|exact h5.elim
 |goto l=>cases x<;>exact h4.elim
 |ret=>cases x<;>first|exact h4.elim|exact h5.elim
 |panic ch=>cases x<;>first|exact h4.elim|exact h5.elim
 |outgrown=>cases x<;>exact h4.elim
def mR (y:Nat):bJ:={f:=.func 0,cap:=[],args:=[],mark:=some y}
def kL:c7:=.raw none (.deferred (some [])) #[] []
def a82 (Q:AX→AF→aG→Prop) (fn:FuncId) (tmps:Array Value) (ps:Array Tmp) (assign body:Code) (D y0:Nat) (f:AF):cH→aG→Prop
 |.ret _,M=>∃st pe N,(st≠.busy)∧M.get (y0+1)=some (.raw none (.loop (eO fn tmps ps assign body D st pe)) tmps f.t)∧N.le M∧N.get (y0+1)=none∧
  (match pe with
   |none=>Q .normal ⟨f.t,mR y0::f.d⟩ N
   |some .ret=>Q .ret ⟨f.t,mR y0::f.d⟩ N
   |some (.exit id)=>Q (.exit id) ⟨f.t,mR y0::f.d⟩ N
   |some _=>False)
 |.pan v,M=>Q (.panic v) ⟨f.t,mR y0::f.d⟩ M
theorem CS {μ:Mu} {F:c8} {M N:aG} {w:World} {id:Nat} {o:c7} (h:dY μ F (M.set id o) w) (hN:N.le M) (hn:N.get id=none):dY μ F N w:=by
 refine h.le ⟨hN.1,fun i p hi=>?_⟩
 rw[aG.get_set]
 split
 ·rename_i e
  subst e
  rw[hn] at hi
  cases hi
 ·exact hN.2 i p hi
theorem DY {P:Program} {n:Nat} {g:Operand} {ps:Array Tmp} {assign body:Code} {Q:AX→AF→aG→Prop} {f:AF} {M:aG} {gf:FuncId} {lb:List AV} (hg:f.ev g=.fn (.func gf) [] lb)
  (h:∀(fn:FuncId) (tmps:Array Value) (D:Nat),tmps.size=n→aQ P gf (.yld (M.next+1)::lb) ⟨M.next+2,(M.next+1,.raw none (.loop (eO fn tmps ps assign body D .ready none)) tmps f.t)::(M.next,kL)::M.objs⟩ (a82 Q fn tmps ps assign body D M.next f)):
  W none P n (.rangeFunc g ps assign body) Q f M:=by
 refine⟨fun μ F w a hG hr=>?_⟩
 have hv:=hr.ev g
 rw[hg] at hv
 obtain⟨c1,c2,he,hs1,hs2,h1,h2⟩:=hv.fn_inv
 have hc1:c1=#[]:=Array.eq_empty_of_size_eq_zero hs1
 subst hc1
 refine wpIn_rangeFunc ?_
 intro fn _
 have hcall:=h fn a.tmps w.heap.size hr.size
 obtain⟨w1,hw1⟩:∃w1,w.alloc (.deferred (some []))=w1:=⟨_,rfl⟩
 obtain⟨w2,hw2⟩:∃w2,w1.alloc (.loop (eO fn a.tmps ps assign body w.heap.size .ready none))=w2:=⟨_,rfl⟩
 have hs1:w1.heap.size=w.heap.size+1:=by rw[←hw1];simp
 have hb1:Below w.heap.size w w1:=by rw[←hw1];exact (Below.refl _ w).alloc (Nat.le_refl _) _
 have hb2:Below w1.heap.size w1 w2:=by rw[←hw2];exact (Below.refl _ w1).alloc (Nat.le_refl _) _
 obtain⟨e1,g1⟩:=jC hG hb1 (o:=.deferred (some [])) (vs:=#[]) (t:=[]) (Nat.le_refl _) (by rw[←hw1];exact World.alloc_heap_new w _) (fun i=>.top _)
 obtain⟨e2,g2⟩:=jC g1 hb2 (o:=.loop (eO fn a.tmps ps assign body w.heap.size .ready none)) (vs:=a.tmps) (t:=f.t) (Nat.le_refl _) (by rw[←hw2];exact World.alloc_heap_new w1 _) (fun i=>(hr.tmps i).evo e1)
 have hev:=e1.trans e2
 generalize hμ:(μ.put M.next (.at w.heap.size)).put (M.push (.raw none (.deferred (some [])) #[] [])).next (.at w1.heap.size)=μ2 at e2 g2 hev
 have hy:μ2 (M.next+1)=some (.at (w.heap.size+1)):=by rw[←hμ,←hs1];simp[Mu.put,aG.push]
 have hD:μ2 M.next=some (.at w.heap.size):=by rw[←hμ];simp[Mu.put,aG.push]
 have hvs:cN μ2 F w2 (.yld (M.next+1)::lb) (#[.func (.yield (w.heap.size+1)) #[] #[]]++c2):=
  (cN.cons (.yld _ _ rfl (by rw[hy];simp) (fun b hb=>by rw[hy] at hb;cases hb;rfl))).app (cN.evo hev ⟨hs2,h2⟩)
 refine⟨w.heap.size+1,[{target:=.collected w.heap.size,args:=#[]}],w2,{target:=.fn (.func gf) c2,args:=#[.func (.yield (w.heap.size+1)) #[] #[]]},w2,gf,
  #[.func (.yield (w.heap.size+1)) #[] #[]]++c2,w2,?_,?_,fun _ _=>trivial,?_,fun e=>(by cases e),?_⟩
 ·rw[←hw2,←hw1];exact run_enterLoop_outer _ _ _ _ _
 ·simp only[resolve,he]
  simp[go_sem]
 ·simp[invoke,go_sem,jV hcall.1]
 refine (GE (hcall.2 μ2 F w2 _ g2 hvs)).mono ?_
 rintro e w3 ⟨μ3,M3,k1,k2,k3⟩
 have hev3:=hev.trans k1
 have hfr:∀(μ4:Mu) (w4:World),dQ w2 μ2 w4 μ4→gX μ4 F w4 n ⟨f.t,mR M.next::f.d⟩ {a with defers:=[{target:=.collected w.heap.size,args:=#[]}]++a.defers}:=by
  intro μ4 w4 q
  have hr4:=(hr.evo (hev.trans q))
  refine⟨hr4.size,hr4.tmps,?_,hr4.kept⟩
  have hd0:fM μ2 F w2 (mR M.next::f.d) ({target:=.collected w.heap.size,args:=#[]}::a.defers):=by
   show E5 _ _ _ _ _∧fM _ _ _ _ _
   exact⟨⟨fun h=>(by cases h),cN.nil,fun y hy=>by cases hy;exact⟨by rw[hD];simp,fun b hb=>by rw[hD] at hb;cases hb;rfl⟩⟩,(hr.evo hev).defs⟩
  exact hd0.evo q
 cases e with
 |returned v=>
  obtain⟨u,_,st,pe,N,hst,hM3,hN,hNy,hq⟩:=k3
  obtain⟨b3,m1,m2,_⟩:=k2.raw _ _ _ _ _ hM3
  have hbb:b3=w.heap.size+1:=by
   rcases k1.mu (M.next+1) (by rw[hy];simp) with h|h|⟨_,_,_,_,h,_⟩
   ·rw[m1,hy] at h;cases h;rfl
   ·rw[m1] at h;cases h
   ·rw[hy] at h;cases h
  subst hbb
  obtain⟨_,e5,e6⟩:=o7 k2 hM3 m1 (.loop (eO fn a.tmps ps assign body w.heap.size .exhausted pe)) (by intro c ty fr e;cases e)
  have hgN:=CS e6 hN hNy
  refine⟨pe,_,run_endLoop m2 hst,?_⟩
  have hfin:=hfr μ3 _ (k1.trans e5)
  have hevN:=hev3.trans e5
  match pe,hq with
  |none,hq=>exact⟨μ3,_,N,.normal,hevN,hgN,hfin,trivial,hq⟩
  |some .ret,hq=>exact wpIn_ret ⟨μ3,_,N,.ret,hevN,hgN,hfin,trivial,hq⟩
  |some (.exit id),hq=>exact wpIn_exit ⟨μ3,_,N,.exit id,hevN,hgN,hfin,rfl,hq⟩
 |panicked ch=>
  obtain⟨x,v,rfl,q1,q2⟩:=k3
  exact⟨μ3,_,M3,.panic x,hev3,k2,hfr μ3 w3 k1,⟨v,rfl,q1⟩,q2⟩
 |outgrown=>exact k3.elim
def tJ (K:aG→Prop):List bJ→aG→Prop
 |[],M=>K M
 |d::ds,M=>∃y N,d=mR y∧M.get y=some kL∧N.le M∧N.get y=none∧tJ K ds N
def a0q (τ:Tab) (fn:Func) (R:cH→aG→Prop):AX→AF→aG→Prop
 |.normal,f,M|.ret,f,M=>tJ (fun N=>∃r,i5 τ N ⟨f.t,[]⟩ fn.results=some r∧R (.ret r) N) f.d M
 |.panic v,f,M=>tJ (fun N=>R (.pan v) N) f.d M
 |.exit _,_,_=>False
theorem mE {P:Program} {fn:Func} {n:Nat} {F:c8} {μ0:Mu} {w0:World} {tmps:Array Value} {K:aG→Prop} {R:Ending→World→Prop} {u:FrameMode} (hu:u≠.run)
  (hK:∀(M:aG) (μ:Mu) (w:World),K M→dQ w0 μ0 w μ→dY μ F M w→LeavesIn Fence.wide n P fn tmps R [] u w):
  ∀(ds:List bJ) (rs:List Deferred) (M:aG) (μ:Mu) (w:World),tJ K ds M→dQ w0 μ0 w μ→dY μ F M w→fM μ F w ds rs→LeavesInM Fence.wide n P fn tmps R rs u w
 |[],[],M,μ,w,h,he,hg,_=>hK M μ w h he hg
 |[],_::_,_,_,_,_,_,_,hd=>hd.elim
 |_::_,[],_,_,_,_,_,_,hd=>hd.elim
 |d::ds,r::rs,M,μ,w,h,he,hg,hd=>by
  obtain⟨y,N,rfl,hM,hN,hy,hrest⟩:=h
  obtain⟨⟨_,_,hm⟩,hds⟩:=hd
  obtain⟨b,k1,k2,_⟩:=hg.raw y _ _ _ _ hM
  obtain⟨_,e5,e6⟩:=o7 hg hM k1 (.deferred none) (by intro c ty fr e;cases e)
  refine⟨hu,.inl ⟨b,_,(hm y rfl).2 b k1,run_takeDeferred k2,?_⟩⟩
  exact mE hu hK ds rs N μ _ hrest (he.trans e5) (CS e6 hN hy) (hds.evo e5)
theorem n9 {P:Program} {τ:Tab} (hτ:TabOK P τ) {g:FuncId} {fn:Func} {c:Code} (hf:P.funcs[g]? =some fn) (hb:fn.body=some c) (hn:fn.name≠ "runtime.NumGoroutine") {args:List AV} {M:aG} {R:cH→aG→Prop}
  (hlen:args.length≤fn.ntmps) (h:W none P fn.ntmps c (a0q τ fn R) (pW args) M):aQ P g args M R:=by
 refine⟨⟨fn,c,hf,hb,hn⟩,fun μ F w vs hg hv=>?_⟩
 refine (callsIn_wide (n:=9)).1 ?_
 refine (callsIn_of_wp_marks (F:=Fence.wide) (n:=9) (R:=j5 F μ w R) hf hb trivial ?_ rfl).mono (fun e w' hp=>hp)
 refine wpIn_mono (h.run μ F w _ hg (lI hlen hv)) ?_
 rintro e a' w' ⟨μ',f',M',x,h1,h2,h3,h4,h5⟩
 have hret:∀(N:aG) (μ1:Mu) (w1:World),(∃r,i5 τ N ⟨f'.t,[]⟩ fn.results=some r∧R (.ret r) N)→dQ w' μ' w1 μ1→dY μ1 F N w1→LeavesIn Fence.wide 9 P fn a'.tmps (j5 F μ w R) [] .returning w1:=by
  rintro N μ1 w1 ⟨r,q1,q2⟩ q3 q4
  have hr1:gX μ1 F w1 fn.ntmps ⟨f'.t,[]⟩ {tmps:=a'.tmps,defers:=[]}:=⟨h3.size,fun t=>(h3.tmps t).evo q3,trivial,fun p hp=>by cases hp⟩
  obtain⟨v,hv',hrep⟩:=jA (P:=P) hτ q4 hr1 q1
  exact⟨v,hv',μ1,N,h1.trans q3,q4,r,hrep,q2⟩
 cases e with
 |normal=>
  cases x<;>first|exact h4.elim|skip
  exact mE (w0:=w') (μ0:=μ') (by simp) (fun N μ1 w1 q1 q2 q3=>hret N μ1 w1 q1 q2 q3) _ _ _ _ _ h5 (dQ.refl _ _) h2 h3.defs
 |exit id=>cases x<;>first|exact h4.elim|exact h5.elim
 |goto l=>cases x<;>exact h4.elim
 |ret=>
  cases x<;>first|exact h4.elim|skip
  exact mE (w0:=w') (μ0:=μ') (by simp) (fun N μ1 w1 q1 q2 q3=>hret N μ1 w1 q1 q2 q3) _ _ _ _ _ h5 (dQ.refl _ _) h2 h3.defs
 |panic ch=>
  cases x<;>first|exact h4.elim|skip
  obtain⟨v,rfl,hrep⟩:=h4
  have hpan:∀(N:aG) (μ1:Mu) (w1:World),R (.pan _) N→dQ w' μ' w1 μ1→dY μ1 F N w1→LeavesIn Fence.wide 9 P fn a'.tmps (j5 F μ w R) [] (.panicking [{v,recovered:=false}]) w1:=
   fun N μ1 w1 q1 q2 q3=>⟨μ1,N,h1.trans q2,q3,_,v,rfl,hrep.evo q2,q1⟩
  exact mE (w0:=w') (μ0:=μ') (by simp) (fun N μ1 w1 q1 q2 q3=>hpan N μ1 w1 q1 q2 q3) _ _ _ _ _ h5 (dQ.refl _ _) h2 h3.defs
 |outgrown=>cases x<;>exact h4.elim
end Go.Ab
namespace Go.Ab
open Go.RowKit
theorem N8 {P:Program} {τ:Tab} (hτ:TabOK P τ) {t e:TypeId} {ti ei:TI} (ht:aJ τ t=some ti) (hk:ti.k=.slice e) (he:aJ τ e=some ei) (hpos:0 < ei.size) {n:Nat} {ps:Array (Nat×Operand)} {ty:TypeId} {ρ:Operand→AV} {M:aG}
  (hn:ps.size=n) (hidx:jZ ps.toList 0=true) (hsz:i9 ei.size (ps.toList.map fun p=>ρ p.2)=true) (hbig:n*ei.size≤16777216):
  F9 P (.buildSlice t n ps) ty ρ M (.osl M.next 0 n n ei.size) (M.push (.cells (b8 (ps.toList.map fun p=>ρ p.2)))):=by
 intro μ F w ρc o hg ho hty hr
 obtain⟨ft,dt,zt,HT⟩:=TI.spec hτ ht
 obtain⟨fe,de,ze,HE⟩:=TI.spec hτ he
 have hfit:=HT.fits
 rw[hk] at hfit
 have hdd:dt=.slice e:=by
  cases dt<;>simp[TK.fits] at hfit
  rw[hfit]
 subst hdd
 have hrp:∀p,p∈ps.toList→bP μ F w (ρ p.2) (ρc p.2):=by
  intro p hp
  refine hr p.2 ?_
  simp only[Op.operands]
  rw[List.mem_toArray,List.mem_map]
  exact⟨p,hp,rfl⟩
 have hsp:=l8 hsz
 have hzc:=HE.zcells μ F w
 have hzs:ze.cells.size=ei.size:=by rw[hzc.size,HE.len]
 let z0:Array Value:=(Array.range (n*ei.size)).map fun k=>ze.cells[k%ze.cells.size]!
 have hz0:IS μ F w (List.replicate (n*ei.size) .top) z0:=by
  refine⟨by simp[z0],?_,?_⟩
  ·intro i u hu
   have hi:i < n*ei.size:=by
    have:=(Array.getElem?_eq_some_iff.1 hu).1
    simpa [z0] using this
   have hm:i%ze.cells.size < ze.cells.size:=Nat.mod_lt _ (by omega)
   simp only[z0,Array.getElem?_map,Array.getElem?_range,hi,if_true,Option.map_some,Option.some.injEq] at hu
   rw[getElem!_pos ze.cells _ hm] at hu
   exact hzc.one _ u (by rw[Array.getElem?_eq_getElem hm,hu])
  ·intro i y u hy hu
   rw[List.getElem?_replicate] at hy
   split at hy<;>cases hy
   exact .top _
 have hlen:(ps.toList.map fun p=>(p.1,ρ p.2)).length=n:=by simp[hn]
 have hfull:=qG ei.size (ps.toList.map fun p=>(p.1,ρ p.2)) 0 [] (by simp) (by
  have:∀(l:List (Nat×Operand)) (k:Nat),jZ l k=true→jZ (l.map fun p=>(p.1,ρ p.2)) k=true:=by
   intro l
   induction l with
   |nil=>intro k _;rfl
   |cons p r ih=>
    intro k h
    simp only[jZ,List.map_cons,Bool.and_eq_true] at h ⊢
    exact⟨h.1,ih _ h.2⟩
  exact this _ _ hidx) (by
  intro p hp
  obtain⟨q,hq,rfl⟩:=List.mem_map.1 hp
  exact hsp _ (List.mem_map.2 ⟨q,hq,rfl⟩))
 rw[hlen,List.nil_append,List.nil_append,List.map_map] at hfull
 obtain⟨c',hc',hcells⟩:=nE (μ:=μ) (F:=F) (w:=w) (place:=tZ ei.size) (placec:=fun i=>some (i*ei.size,ei.size)) (ρ:=ρ) (ρc:=ρc) (fun i q hq=>hq) ps.toList _ z0 _ hz0 hrp hfull
 have hb:=fL w (.cells c' e)
 have hnew:({w with heap:=w.heap.push (.cells c' e)}:World).heap[w.heap.size]? =some (.cells c' e (0,0)):=by simp
 have hpm:(ps.map fun p=>(p.1,ρc p.2)).toList=ps.toList.map fun p=>(p.1,ρc p.2):=by simp
 obtain⟨hev,hG⟩:=j9 hg hb (l:=b8 (ps.toList.map fun p:Nat×Operand=>ρ p.2)) (Nat.le_refl _) hnew hcells.size hcells.one hcells.rep
 refine⟨_,_,.slice (some ⟨w.heap.size,0,none⟩) n n,_,?_,.inl rfl,hev,hG,kS (by simp[Mu.put])⟩
 have hze:(zeroValue e).run P w=.ok ze w:=by simp[zeroValue,typeInfo,HE.info,HE.zero]
 simp only[execOp,ho,Instr.buildSlice,Sem.run_bind,run_underlying HT.und,Result.andThen_ok,run_sizeOf w HE.info,HE.cellsOf]
 rw[if_neg (by simpa using hbig)]
 by_cases h0:n*ei.size=0
 ·rw[if_pos h0]
  have hz':(Array.range (n*ei.size)).map (fun k=>(#[]:Array Value)[k%(#[]:Array Value).size]!)=z0:=by simp[z0,h0]
  simp only[Sem.run_bind,Sem.run_pure,Result.andThen_ok,hz',hpm,hc']
  simp[newRow]
 ·rw[if_neg h0]
  simp only[Sem.run_bind,hze,Sem.run_pure,Result.andThen_ok]
  have hz':(Array.range (n*ei.size)).map (fun k=>ze.cells[k%ze.cells.size]!)=z0:=rfl
  simp only[hz',hpm,hc']
  simp[newRow]
section
variable {P:Program} {τ:Tab} {ops:Array Oper} {cls:Nat→fQ} {Q:AX→AF→aG→Prop} {ds:List bJ} {ls:List Nat} {i:Nat} {t:List (Nat×AV)} {M:aG}
def TW (τ:Tab) (ds:List bJ) (t:List (Nat×AV)) (M:aG) (d:Nat) (ty:TypeId) (n:Nat) (ps:Array (Nat×Operand)):Option (List (Nat×AV)×List AV):=
 match aJ τ ty with
 |some ti=>
  match ti.k with
  |.slice e=>
   match aJ τ e with
   |some ei=>
    match decide (0 < ei.size),decide (ps.size=n),jZ ps.toList 0,i9 ei.size (ps.toList.map fun p=>AF.ev ⟨t,ds⟩ p.2),decide (n*ei.size≤16777216),nU (b8 (ps.toList.map fun p=>AF.ev ⟨t,ds⟩ p.2)) with
    |true,true,true,true,true,some ys=>some ((d,.osl M.next 0 n n ei.size)::t,ys)
    |_,_,_,_,_,_=>none
   |none=>none
  |_=>none
 |none=>none
def GB (τ:Tab) (ops:Array Oper) (cls:Nat→fQ) (ds:List bJ) (i:Nat) (t:List (Nat×AV)) (M:aG) (d:Nat):Option (List (Nat×AV)×List AV):=
 match ops[i]? with
 |some o=>
  match aT ops ⟨t,ds⟩ o,decide (o.dst=some d),n7 (cls i),o.op with
  |some true,true,true,.buildSlice ty n ps=>TW τ ds t M d ty n ps
  |_,_,_,_=>none
 |none=>none
theorem a2r (d:Nat) (hτ:TabOK P τ) {t':List (Nat×AV)} {ys:List AV} (hs:GB τ ops cls ds i t M d=some (t',ys)) (h:DW P ops cls Q ds ls t' (M.push (.cells ys))):DW P ops cls Q ds (i::ls) t M:=by
 unfold GB at hs
 split at hs
 ·rename_i o hi
  split at hs
  ·rename_i ty n ps hw hd hc ho
   unfold TW at hs
   split at hs
   ·rename_i ti ht
    split at hs
    ·rename_i e hk
     split at hs
     ·rename_i ei he
      split at hs
      ·rename_i ys' hp hn hidx hsz hbig hys
       cases hs
       have:=j6 hys
       subst this
       exact lE hi hw (of_decide_eq_true hd) hc (by rw[ho];exact N8 hτ ht hk he (of_decide_eq_true hp) (of_decide_eq_true hn) hidx hsz (of_decide_eq_true hbig)) h
      ·cases hs
     ·cases hs
    ·cases hs
   ·cases hs
  ·cases hs
 ·cases hs
structure a9o where
 d:Nat
 id:Nat
 n:Nat
 cap:Nat
 sz:Nat
 bt:Nat
 l:List AV
 ys:List AV
def U4 (τ:Tab) (ds:List bJ) (t:List (Nat×AV)) (M:aG) (d:Nat) (ty tx:TypeId) (s y:Operand):Option a9o:=
 match AF.ev ⟨t,ds⟩ s with
 |.osl id 0 n cap sz=>
  match M.get id,aJ τ ty,aJ τ tx with
  |some (.cells l),some ti,some xi=>
   match ti.k with
   |.slice e=>
    match aJ τ e with
    |some ei=>
     match decide (0 < ei.size),eG xi.k (AF.ev ⟨t,ds⟩ y),decide (sz=ei.size),iI ei.size (AF.ev ⟨t,ds⟩ y) with
     |true,true,true,some ys=>some ⟨d,id,n,cap,sz,ei.bytes,l,ys⟩
     |_,_,_,_=>none
    |none=>none
   |_=>none
  |_,_,_=>none
 |_=>none
def K2 (τ:Tab) (ops:Array Oper) (cls:Nat→fQ) (ds:List bJ) (i:Nat) (t:List (Nat×AV)) (M:aG):Option a9o:=
 match ops[i]? with
 |some o=>
  match aT ops ⟨t,ds⟩ o,o.dst,n7 (cls i),o.op with
  |some true,some d,true,.call {callee:=.builtin .append,args:=⟨[s,y]⟩,argTypes:=⟨[ty,tx]⟩}=>U4 τ ds t M d ty tx s y
  |_,_,_,_=>none
 |none=>none
theorem TE (hτ:TabOK P τ) {d id n cap sz bt:Nat} {l ys:List AV} (hs:K2 τ ops cls ds i t M=some ⟨d,id,n,cap,sz,bt,l,ys⟩) (hl:l.length=cap*sz) (hnc:n≤cap) (hb:(n+ys.length)*bt≤140737488355328) (hlen:n+ys.length≤140737488355328)
  (h:∀(cap':Nat) (l':List AV),n+ys.length≤cap'→l'.length=cap'*sz→l'.take ((n+ys.length)*sz)=l.take (n*sz)++b8 ys→DW P ops cls Q ds ls ((d,.osl M.next 0 (n+ys.length) cap' sz)::t) ((M.drop id).push (.cells l'))):DW P ops cls Q ds (i::ls) t M:=by
 unfold K2 at hs
 split at hs
 ·rename_i o hi
  split at hs
  ·rename_i d' s y ty tx hw hd hc ho
   unfold U4 at hs
   split at hs
   ·rename_i id' n' cap' sz' hS
    split at hs
    ·rename_i l' ti xi hM ht hxi
     split at hs
     ·rename_i e hk
      split at hs
      ·rename_i ei he
       split at hs
       ·rename_i ys' hp hf hsz hX
        cases hs
        exact m0 hτ hi hw hd hc ho hS hM ht hk he hp hxi (of_decide_eq_true hsz) hf hX hl hnc hb hlen h
       ·cases hs
      ·cases hs
     ·cases hs
    ·cases hs
   ·cases hs
  ·cases hs
 ·cases hs
def PG (τ:Tab) (ops:Array Oper) (cls:Nat→fQ) (ds:List bJ) (i:Nat) (t:List (Nat×AV)) (M:aG):Option (List (Nat×AV)):=
 match ops[i]? with
 |some o=>
  match aT ops ⟨t,ds⟩ o,o.dst,pG (cls i),o.op with
  |some true,some d,true,.indexAddr ty X I=>(match AF.ev ⟨t,ds⟩ X,AF.ev ⟨t,ds⟩ I with
   |.osl id off n cap sz,.int k j=>(match M.get id,aJ τ ty with
    |some (.cells l),some ti=>(match ti.k with
     |.slice e=>(match aJ τ e with
      |some ei=>(match decide (0≤j),decide (j < n),decide (sz=ei.size) with
       |true,true,true=>some ((d,.ptr id (off+j.toNat*sz))::t)
       |_,_,_=>none)
      |none=>none)
     |_=>none)
    |_,_=>none)
   |_,_=>none)
  |_,_,_,_=>none
 |none=>none
theorem NQ (hτ:TabOK P τ) {t':List (Nat×AV)} (hs:PG τ ops cls ds i t M=some t') (h:DW P ops cls Q ds ls t' M):DW P ops cls Q ds (i::ls) t M:=by
 unfold PG at hs
 split at hs
 ·rename_i o hi
  split at hs
  ·rename_i d ty X I hw hd hc ho
   split at hs
   ·rename_i id off n cap sz k j hX hI
    split at hs
    ·rename_i l ti hM ht
     split at hs
     ·rename_i e hk
      split at hs
      ·rename_i ei he
       split at hs
       ·rename_i h0 hj hsz
        cases hs
        exact jY hi hw hd hc (by rw[ho];exact zW hτ ht hk he hX hM hI (of_decide_eq_true h0) (of_decide_eq_true hj) (of_decide_eq_true hsz)) h
       ·cases hs
      ·cases hs
     ·cases hs
    ·cases hs
   ·cases hs
  ·cases hs
 ·cases hs
def JD (τ:Tab) (ops:Array Oper) (cls:Nat→fQ) (ds:List bJ) (i:Nat) (t:List (Nat×AV)) (M:aG):Option (List (Nat×AV)):=
 match ops[i]? with
 |some o=>
  match aT ops ⟨t,ds⟩ o,o.dst,pG (cls i),o.op with
  |some true,some d,true,.call {callee:=.builtin .len,args:=⟨[x]⟩,argTypes:=⟨[ty]⟩}=>(match AF.ev ⟨t,ds⟩ x with
   |.osl id off n cap sz=>(match M.get id,aJ τ ty with
    |some (.cells l),some ti=>(match ti.k with
     |.slice e=>some ((d,.int .i64 n)::t)
     |_=>none)
    |_,_=>none)
   |_=>none)
  |_,_,_,_=>none
 |none=>none
theorem GZ (hτ:TabOK P τ) {t':List (Nat×AV)} (hs:JD τ ops cls ds i t M=some t') (h:DW P ops cls Q ds ls t' M):DW P ops cls Q ds (i::ls) t M:=by
 unfold JD at hs
 split at hs
 ·rename_i o hi
  split at hs
  ·rename_i d x ty hw hd hc ho
   split at hs
   ·rename_i id off n cap sz hX
    split at hs
    ·rename_i l ti hM ht
     split at hs
     ·rename_i e hk
      cases hs
      exact p7 hτ hi hw hd hc ho hX hM ht hk h
     ·cases hs
    ·cases hs
   ·cases hs
  ·cases hs
 ·cases hs
end
theorem xV {μ μ2:Mu} {F:c8} {w:World} {id b n cap:Nat} {M:aG} {l xs:List AV} (hg:dY μ F M w) (hM:M.get id=some (.cells l)) (hb:μ id=some (.at b)) (hx:l.take n=xs) (hnl:n≤l.length) (hnc:n≤cap) (h1:∀x,x∈xs→x.cells=[x])
  (k2:∀b o,jG μ2 b o→∃i,i≠id∧(μ i=some (.at b)∨∃e g,μ i=some (.spare (some (b,e)) g)∧e≤o)) (k3:dQ w μ w μ2):bP μ2 F w (.sl 1 xs .none) (.slice (some ⟨b,0,none⟩) n cap):=by
 obtain⟨b',c,ty,o1,o2,o3,o4,o5⟩:=hg.obj id l hM
 rw[hb] at o1
 cases o1
 have hlen:xs.length=n:=by rw[←hx,List.length_take];omega
 rw[←hlen]
 have key:∀(p:Nat) (x:AV) (q:Nat) (y:AV),xs[p]? =some x→x.cells[q]? =some y→q=0∧y=x∧l[p]? =some x∧p < l.length:=by
  intro p x q y hp hq
  rw[h1 x (List.mem_of_getElem? hp)] at hq
  have hpn:p < n:=by rw[←hlen];exact (List.getElem?_eq_some_iff.1 hp).1
  rw[←hx,List.getElem?_take,if_pos hpn] at hp
  cases q with
  |zero=>simp at hq;exact⟨rfl,hq.symm,hp,by omega⟩
  |succ q=>simp at hq
 have hcell:∀p,p < l.length→c[p]? =some (c.getD p undef):=by
  intro p hp
  have:p < c.size:=by omega
  simp[Array.getD,this]
 refine .sl 1 xs .none _ _ ⟨b,0,none⟩ (fun p=>c.getD p undef) ?_ (by omega) (fun _=>⟨rfl,rfl⟩) ?_ ?_ ?_ trivial
 ·intro x hx'
  rw[h1 x hx']
  rfl
 ·intro p x q y hp hq
  obtain⟨rfl,rfl,h4,h5⟩:=key p x q y hp hq
  rw[Nat.mul_one,Nat.add_zero]
  exact o4 p _ (hcell p h5)
 ·intro p x q y hp hq
  obtain⟨rfl,rfl,h4,h5⟩:=key p x q y hp hq
  simp only[Nat.mul_one,Nat.add_zero,Nat.zero_add]
  refine⟨by rw[cF o2];exact hcell p h5,hg.frm b p ⟨id,.inl hb⟩,?_⟩
  intro ho
  obtain⟨i',hi',h6|⟨e',g',h6,_⟩⟩:=k2 b p ho
  ·exact hi' (hg.inj i' id b (.inl h6) (.inl hb))
  ·exact hi' (hg.inj i' id b (.inr ⟨e',g',h6⟩) (.inl hb))
 ·intro p x q y hp hq
  obtain⟨rfl,rfl,h4,h5⟩:=key p x q y hp hq
  rw[Nat.mul_one,Nat.add_zero]
  exact (o5 p _ _ h4 (hcell p h5)).evo k3
theorem aR.freezeM {n0:Nat} {f:AF} {M N:aG} (jd i:Nat) {c:List AV} {id n cap:Nat} {l xs:List AV} (hJ:M.get jd=some (.cells c)) (h:c[i]? =some (.osl id 0 n cap 1)) (hM:M.get id=some (.cells l)) (hne:jd≠id) (hx:l.take n=xs) (hnl:n≤l.length) (hnc:n≤cap) (h1:∀x,x∈xs→x.cells=[x])
  (hN:N.le ((M.drop id).set jd (.cells (c.set i (.sl 1 xs .none))))):aR n0 f M f N:=by
 intro μ0 μ F w0 w m a hn he hg hr
 obtain⟨b,c0,ty,o1,o2,o3,o4,o5⟩:=hg.obj id l hM
 have hid:id < M.next:=(hg.dom id).1 (by rw[o1];simp)
 obtain⟨μ2,k1,k2,k3,k4⟩:=lM hg hid
 have hG:=k4 (M.drop id) rfl (fun j=>aG.get_drop M id j)
 refine⟨μ2,he.trans k3,dY.le ?_ hN,hr.evo k3⟩
 obtain⟨b',c',ty',q1,q2,q3,q4,q5⟩:=hg.obj jd c hJ
 refine⟨hG.dom,?_,?_,hG.inj,hG.frm,hG.fit,?_⟩
 ·intro j m hm
  rw[aG.get_set] at hm
  split at hm
  ·rename_i e
   cases hm
   subst e
   refine⟨b',c',ty',by rw[k1 j hne];exact q1,q2,by rw[List.length_set];exact q3,q4,?_⟩
   intro q x v hx' hv
   rw[List.getElem?_set] at hx'
   split at hx'
   ·rename_i e
    subst e
    split at hx'
    ·cases hx'
     have hv0:=q5 i _ v h hv
     obtain⟨b3,r1,r2⟩:=eK hg hM hv0
     rw[o1] at r1
     cases r1
     rw[r2]
     exact xV hg hM o1 hx hnl hnc h1 k2 k3
    ·cases hx'
   ·exact (q5 q x v hx' hv).evo k3
  ·exact hG.obj j m hm
 ·intro j g hm
  rw[aG.get_set] at hm
  split at hm
  ·cases hm
  ·exact hG.spare j g hm
 ·intro j gg o vs t hm
  rw[aG.get_set] at hm
  split at hm
  ·cases hm
  ·exact hG.raw j gg o vs t hm
end Go.Ab
namespace Go.Ab
open Go.RowKit
def a5f (P:Program) (gf:FuncId) (lb:List AV) {α:Type} (enc:α→List AV) (ok:List α→α→Prop) (out:List α):Prop:=
 ∀(y:Nat) (J:List α→aG→Prop) (M:aG),(∀L N,J L N→∃o vs t,N.get y=some (.raw none o vs t))→
  (∀L x N,J L N→ok L x→fH P y (enc x) N fun e N'=>e=.ret (.bool true)∧J (L++[x]) N')→J [] M→
  aQ P gf (.yld y::lb) M fun e N=>e=.ret (.tup [])∧J out N
theorem XS {P:Program} {n:Nat} {g:Operand} {ps:Array Tmp} {assign body:Code} {Q:AX→AF→aG→Prop} {f:AF} {M:aG} {gf:FuncId} {lb:List AV} {α:Type} {enc:α→List AV} {ok:List α→α→Prop} {out:List α}
  (hg:f.ev g=.fn (.func gf) [] lb) (hit:a5f P gf lb enc ok out) (K:c7→List α→aG→Prop) (hps:∀x,ps.toList.length=(enc x).length) (hpn:(ps.toList.all fun p=>decide (p < n))=true)
  (hK:∀O L N,K O L N→N.get (M.next+1)=some O) (h0:∀O,K O [] ⟨M.next+2,(M.next+1,O)::(M.next,kL)::M.objs⟩)
  (hround:∀(O O1:c7) (L:List α) (x:α) (N:aG) (l:Nat),K O L N→ok L x→
   W (some l) P n assign (sK (fun f1 M1=>M1.get (M.next+1)=some O∧W (some l) P n body (fun e _ N'=>e=.normal∧N'.get (M.next+1)=some O1∧K O (L++[x]) (N'.set (M.next+1) O)) f1 (M1.set (M.next+1) O1)) (fun _ _ _=>False)) ⟨J3 ps.toList (enc x) f.t,[]⟩ N)
  (hdone:∀O N,K O out N→∃N',N'.le N∧N'.get (M.next+1)=none∧Q .normal ⟨f.t,mR M.next::f.d⟩ N'):
  W none P n (.rangeFunc g ps assign body) Q f M:=by
 refine DY hg fun fn tmps D hn=>?_
 refine (hit (M.next+1) (fun L N=>K (.raw none (.loop (eO fn tmps ps assign body D .ready none)) tmps f.t) L N) _ (fun L N h=>⟨_,_,_,hK _ _ _ h⟩) ?_ (h0 _)).mono ?_
 ·intro L x N hJ hok
  refine qT (hK _ _ _ hJ) hn (hps x) hpn fun l=>?_
  refine (hround _ (.raw none (.loop (eO fn tmps ps assign body D .busy none)) tmps f.t) L x N l hJ hok).mono ?_
  rintro x1 f1 M1 h1
  cases x1 with
  |normal=>
   refine⟨h1.1,h1.2.mono ?_⟩
   rintro x2 f2 M2 ⟨rfl,h3,h4⟩
   exact⟨h3,rfl,h4⟩
  |exit id=>exact h1.elim
  |ret=>exact h1.elim
  |panic v=>exact h1.elim
 ·rintro e N ⟨rfl,hJ⟩
  obtain⟨N',h1,h2,h3⟩:=hdone _ N hJ
  exact⟨.ready,none,N',by simp,hK _ _ _ hJ,h1,h2,h3⟩
theorem uP {K:aG→Prop} {y:Nat} {M N:aG} (hM:M.get y=some kL) (hN:N.le M) (hy:N.get y=none) (h:K N):tJ K [mR y] M:=⟨y,N,rfl,hM,hN,hy,h⟩
theorem aG.le_trans {A B C:aG} (h:A.le B) (k:B.le C):A.le C:=⟨h.1.trans k.1,fun i o hi=>k.2 i o (h.2 i o hi)⟩
theorem XE {P:Program} {τ:Tab} (hτ:TabOK P τ) {s d e:TypeId} {si di ei:TI} (hs:aJ τ s=some si) (hks:si.k=.slice e) (he:aJ τ e=some ei) (hke:ei.k=.int .u8) (hd:aJ τ d=some di) (hkd:di.k=.str) {X:Operand} {ty:TypeId} {ρ:Operand→AV} {M:aG} {id n cap:Nat} {l:List AV} {bs:List UInt8}
  (hX:ρ X=.osl id 0 n cap 1) (hM:M.get id=some (.cells l)) (hl:l.take n=bs.map gH) (hnl:n≤l.length) (hnc:n≤cap):wR P (.convert s d X) ty ρ M (.str bs):=by
 intro μ F w ρc o hg ho hty hr
 have hx:=hr X (by simp[Op.operands])
 rw[hX] at hx
 obtain⟨b,hb,hv⟩:=eK hg hM hx
 have hid:id < M.next:=(hg.dom id).1 (by rw[hb];simp)
 obtain⟨μ2,k1,k2,k3,k4⟩:=lM hg hid
 have hG:=k4 (M.drop id) rfl (fun j=>aG.get_drop M id j)
 have hrep:=xV hg hM hb hl hnl hnc (fun x hx=>by obtain⟨c,_,rfl⟩:=List.mem_map.1 hx;rfl) k2 k3
 obtain⟨v,w',h1,h2,h3⟩:=a3l (P:=P) hτ hs hks he hke hd hkd (x:=X) (ty:=ty) (ρ:=fun _=>.sl 1 (bs.map gH) .none) rfl μ2 F w ρc o hG.fit ho hty (fun y hy=>by
  have:y=X:=by simpa [Op.operands] using hy
  subst this
  rw[hv]
  exact hrep)
 refine⟨v,w',h1,h2,?_⟩
 cases h3
 exact .str _
theorem a2e {P:Program} {τ:Tab} {ops:Array Oper} {cls:Nat→fQ} {Q:AX→AF→aG→Prop} {ds:List bJ} {ls:List Nat} {i:Nat} {o:Oper} {t:List (Nat×AV)} {M:aG} (hτ:TabOK P τ) {d:Nat} (hi:ops[i]? =some o) (hw:aT ops ⟨t,ds⟩ o=some true) (hd:o.dst=some d) (hc:pG (cls i)=true)
  {s e dt:TypeId} {X:Operand} (ho:o.op=.convert s dt X) {si di ei:TI} (hs:aJ τ s=some si) (hks:si.k=.slice e) (he:aJ τ e=some ei) (hke:ei.k=.int .u8) (hdt:aJ τ dt=some di) (hkd:di.k=.str) {id n cap:Nat} {l:List AV} {bs:List UInt8}
  (hX:AF.ev ⟨t,ds⟩ X=.osl id 0 n cap 1) (hM:M.get id=some (.cells l)) (hl:l.take n=bs.map gH) (hnl:n≤l.length) (hnc:n≤cap) (h:DW P ops cls Q ds ls ((d,.str bs)::t) M):DW P ops cls Q ds (i::ls) t M:=
 jY hi hw hd hc (by rw[ho];exact XE hτ hs hks he hke hdt hkd hX hM hl hnl hnc) h
end Go.Ab
namespace Go.Proofs.YteliblifgdofgaaGreatDoor
open Go.Ab
def HJ (n i:Nat):aD:=((KB n).take i).dropWhile (·==0)
def nb (n:Nat):aD:=HJ n 4
theorem nD {p:UInt8→Bool} (b:UInt8):∀l:aD,(l++[b]).dropWhile p=if l.dropWhile p=[] then (if p b=true then [] else [b]) else l.dropWhile p++[b]
 |[]=>by cases h:p b<;>simp[List.dropWhile,h]
 |a::l=>by
  cases h:p a
  ·simp[List.dropWhile,h]
  ·simpa [List.dropWhile,h] using nD b l
theorem UE (n j:Nat) (h:j < 4):HJ n (4 - j)=if HJ n (3 - j)=[] then (if (gI n j==0)=true then [] else [gI n j]) else HJ n (3 - j)++[gI n j]:=by
 have e:(KB n).take (4 - j)=(KB n).take (3 - j)++[gI n j]:=by
  match j,h with
  |0,_=>rfl
  |1,_=>rfl
  |2,_=>rfl
  |3,_=>rfl
 unfold HJ
 rw[e,nD]
theorem FS (n i:Nat):(HJ n i).length≤i:=by
 have h1:(HJ n i).length≤((KB n).take i).length:=(List.dropWhile_sublist _).length_le
 rw[List.length_take] at h1
 omega
def E0 (n:Nat) (y:Nat) (L:aD) (k:Int):AF:=⟨[(0,.yld y),(1,.ref [.int .i64 (n:Int)]),(3,.bool (!L.isEmpty)),(4,.int .i64 k)],[]⟩
theorem W2 (n:Nat) (hn:n < 4294967296) (y:Nat) (J:aD→aG→Prop) (M:aG) (hraw:∀L N,J L N→∃o vs t,N.get y=some (.raw none o vs t)) (hY:∀L (x:UInt8) N,J L N→L.length < 4→fH Tryz.prog y [.int .u8 (x.toNat:Int)] N fun e N'=>e=.ret (.bool true)∧J (L++[x]) N') (h0:J [] M):aQ Tryz.prog 143 [.yld y,.ref [.int .i64 (n:Int)]] M (fun e N=>e=.ret (.tup [])∧J (nb n) N):=by
 refine aC aF Tryz.func143 rfl (by decide) (by simp[Tryz.f143]) ?_
 repeat' (first|refine zA rfl ?_|refine aA ?_|refine aL rfl ?_)
 refine lB (fun m f N=>m≤4∧J (HJ n (4 - m)) N∧f=E0 n y (HJ n (4 - m)) ((m:Int) - 1)) (k:=4) ⟨Nat.le_refl _,(by simpa [HJ] using h0),rfl⟩ (aR.le ?_ (aG.le_refl _)) ?_
 ·unfold E0
  repeat (refine AF.le_cons rfl ?_)
  exact AF.le_nil rfl
 rintro m f N ⟨hm,hJ,rfl⟩
 match m,hm,hJ with
 |0,_,hJ=>
  unfold E0
  repeat' (first|refine zA rfl ?_|refine aA ?_|refine aL rfl ?_)
  exact⟨rfl,_,rfl,rfl,hJ⟩
 |j+1,hm,hJ=>
  have hk:((j+1:Nat):Int) - 1=(j:Int):=by omega
  rw[hk]
  rw[show 4 - (j+1)=3 - j from by omega] at hJ ⊢
  have hL:=FS n (3 - j)
  have hs:=UE n j (by omega)
  generalize HJ n (3 - j)=L at hJ hs hL
  have d0:decide ((0:Int)≤(j:Int))=true:=by simp
  have d1:decide ((j:Int) < (0:Int))=false:=by simp
  have g1:IntKind.wrap .i64 (8*(j:Int))=((8*j:Nat):Int):=(Go.Ab.wrap_small (by omega) (by omega)).trans (by omega)
  have g2:Int.fdiv (n:Int) ((2:Int)^(min (((8*j:Nat):Int)).toNat IntKind.i64.bits))=((n/256^j:Nat):Int):=by
   have e1:min (((8*j:Nat):Int)).toNat IntKind.i64.bits=8*j:=by
    show min _ 64=_
    omega
   rw[e1,WO,Nat.pow_mul]
  have g3:IntKind.wrap .u8 ((n/256^j:Nat):Int)=((gI n j).toNat:Int):=SO n j _ rfl
  have g4:IntKind.wrap .i64 ((j:Int) - 1)=(j:Int) - 1:=Go.Ab.wrap_small (by omega) (by omega)
  generalize gI n j=b at g3 hs
  unfold E0
  obtain⟨o,vs,t0,hr⟩:=hraw L N hJ
  cases L with
  |nil=>
   cases hb:(b==0)
   ·have d2:(!decide ((b.toNat:Int)=0))=true:=by
     have:¬(b.toNat:Int)=0:=by
      intro h
      have:b=0:=UInt8.toNat_inj.1 (by simpa using h)
      simp[this] at hb
     simp only[this,decide_false,Bool.not_false]
    have e:HJ n (4 - j)=[b]:=by rw[hs,hb];rfl
    repeat' (first|refine zB rfl (by first|exact d0|exact d1|exact d2) ?_|refine zI rfl (by first|exact g1|exact g2|exact g3) ?_|refine zA rfl ?_|refine aA ?_|refine aL rfl ?_)
    refine a2v rfl hr (hY [] b N hJ (by simp)) ?_ (by rintro u M' ⟨h,_⟩;cases h)
    rintro u M' ⟨h,hJ'⟩
    cases h
    repeat' (first|refine zB rfl (by first|exact d0|exact d1) ?_|refine zI rfl (by first|exact g1|exact g4) ?_|refine zA rfl ?_|refine aA ?_|refine aL rfl ?_)
    refine⟨j,_,_,by omega,⟨by omega,(by rw[e];exact hJ'),rfl⟩,aR.le ?_ (aG.le_refl _)⟩
    rw[e]
    repeat (refine AF.le_cons rfl ?_)
    exact AF.le_nil rfl
   ·have d2:(!decide ((b.toNat:Int)=0))=false:=by
     have:b=0:=by simpa using hb
     simp[this]
    have e:HJ n (4 - j)=[]:=by rw[hs,hb];rfl
    repeat' (first|refine zB rfl (by first|exact d0|exact d1|exact d2) ?_|refine zI rfl (by first|exact g1|exact g2|exact g3|exact g4) ?_|refine zA rfl ?_|refine aA ?_|refine aL rfl ?_)
    refine⟨j,_,_,by omega,⟨by omega,(by rw[e];exact hJ),rfl⟩,aR.le ?_ (aG.le_refl _)⟩
    rw[e]
    repeat (refine AF.le_cons rfl ?_)
    exact AF.le_nil rfl
  |cons a L=>
   have e:HJ n (4 - j)=a::L++[b]:=by rw[hs,if_neg (by simp)]
   repeat' (first|refine zB rfl d0 ?_|refine zI rfl (by first|exact g1|exact g2|exact g3) ?_|refine zA rfl ?_|refine aA ?_|refine aL rfl ?_)
   refine a2v rfl hr (hY (a::L) b N hJ (by simp at hL ⊢;omega)) ?_ (by rintro u M' ⟨h,_⟩;cases h)
   rintro u M' ⟨h,hJ'⟩
   cases h
   repeat' (first|refine zB rfl (by first|exact d0|exact d1) ?_|refine zI rfl (by first|exact g1|exact g4) ?_|refine zA rfl ?_|refine aA ?_|refine aL rfl ?_)
   refine⟨j,_,_,by omega,⟨by omega,(by rw[e];exact hJ'),rfl⟩,aR.le ?_ (aG.le_refl _)⟩
   rw[e]
   repeat (refine AF.le_cons rfl ?_)
   exact AF.le_nil rfl
theorem a1o (n:Nat) (hn:n < 4294967296):a5f Tryz.prog 143 [.ref [.int .i64 (n:Int)]] (fun b:UInt8=>[.int .u8 (b.toNat:Int)]) (fun L _=>L.length < 4) (nb n):=
 fun y J M hraw hY h0=>W2 n hn y J M hraw hY h0
def gN (n:Nat):aD:=UInt8.ofNat (nb n).length::nb n
def MJ (n:Int):AV:=if 0≤n∧n≤4294967295 then .tup [.str (gN n.toNat),.int .i64 0] else .tup [.str [],.int .i64 1]
theorem ML (n:Int):aN (MJ n):=by
 unfold MJ
 split<;>exact aS (aV aP aB)
def jd:Nat→Nat
 |0=>0
 |e+1=>4+e
def NM (O:c7) (e cap:Nat) (arr:List AV):aG:=⟨4+e,[(1,.cells [.osl (jd e) 0 (1+e) cap 1]),(2,kL),(3,O),(jd e,.cells arr)]⟩
def NK (O:c7) (L:aD) (N:aG):Prop:=∃cap arr,1+L.length≤cap∧arr.length=cap*1∧arr.take (1+L.length)=(0::L).map gH∧(NM O L.length cap arr).le N
theorem RD (n:Int):aO Tryz.prog 95 [.int .i64 n] (.fn (.func 143) [] [.ref [.int .i64 n]]):=by
 intro M
 refine aC aF Tryz.func95 rfl (by decide) (by simp[Tryz.f95]) ?_
 repeat' (first|refine zA rfl ?_|refine aA ?_|refine aL rfl ?_)
 exact⟨rfl,_,rfl,rfl,rfl⟩
def NE (e cap:Nat) (arr:List AV):aG:=⟨4+e,[(1,.cells [.osl (jd e) 0 (1+e) cap 1]),(2,kL),(jd e,.cells arr)]⟩
theorem a2c {m e:Nat} (h:(nb m).length=e):gN m=UInt8.ofNat e::nb m:=by rw[←h];rfl
theorem JN {x y:AV} {l:List AV}:b9 (y::l) 0 [x]=x::l:=by cases l<;>rfl
theorem YG {arr:List AV} {e:Nat} {x y:AV} {r:List AV} (h:arr.take (1+e)=y::r):(b9 arr 0 [x]).take (1+e)=x::r:=by
 cases arr with
 |nil=>simp at h
 |cons a l=>
  rw[Nat.add_comm,List.take_succ_cons] at h
  cases h
  rw[JN,Nat.add_comm,List.take_succ_cons]
theorem S3 {arr:List AV} {e cap:Nat} {x:AV} (h:arr.length=cap*1) (hc:1+e≤cap):1+e≤(b9 arr 0 [x]).length:=by
 cases arr with
 |nil=>simp at h;omega
 |cons a l=>
  rw[JN]
  simp at h ⊢
  omega
theorem RC (n:Int):aO Tryz.prog 56 [.int .i64 n] (MJ n):=by
 refine aU (aX aB) (ML n) ?_
 refine n9 aF Tryz.func56 rfl (by decide) (by simp[Tryz.f56]) ?_
 have kb:=RD n
 cases d1:decide (n < 0)
 ·cases d2:decide (4294967295 < n)
  ·have h1:=of_decide_eq_false d1
   have h2:=of_decide_eq_false d2
   unfold MJ
   rw[if_pos ⟨by omega,by omega⟩]
   obtain⟨m,rfl⟩:=Int.eq_ofNat_of_zero_le (by omega:0≤n)
   repeat' (first|refine zB rfl (by first|exact d1|exact d2) ?_|refine a2r 12 aF rfl ?_|refine zA rfl ?_|refine aA ?_|refine aL rfl ?_|refine aH rfl kb ?_)
   refine W.le (g:=⟨[(4,.ptr 1 0),(14,.fn (.func 143) [] [.ref [.int .i64 (m:Int)]])],[]⟩) (N:=⟨2,[(1,.cells [.osl 0 0 1 1 1]),(0,.cells [.int .u8 0])]⟩) ?_ ?_ ?_
   ·repeat (refine AF.le_cons rfl ?_)
    exact AF.le_nil rfl
   ·exact aG.le_cons rfl (aG.le_cons rfl (aG.le_nil rfl))
   refine XS rfl (a1o m (by omega)) NK (fun _=>rfl) rfl ?_ ?_ ?_ ?_
   ·rintro O L N ⟨cap,arr,_,_,_,hN⟩
    exact hN.2 _ _ rfl
   ·intro O
    refine⟨1,[.int .u8 0],Nat.le_refl _,rfl,rfl,?_⟩
    exact aG.le_cons rfl (aG.le_cons rfl (aG.le_cons rfl (aG.le_cons rfl (aG.le_nil rfl))))
   ·rintro O O1 L x N l ⟨cap,arr,c1,c2,c3,hN⟩ hL
    rcases (by omega:L.length=0∨L.length=1∨L.length=2∨L.length=3) with h|h|h|h
    all_goals
     rw[h] at c1 c3 hN
     refine W.le ⟨rfl,fun _=>Sub.refl⟩ hN ?_
     repeat' (first|refine zA rfl ?_|refine aA ?_|refine aL rfl ?_)
     refine⟨rfl,?_⟩
     repeat' (first|refine zA rfl ?_|refine aL rfl ?_|refine zR rfl ?_)
     refine TE aF rfl c2 c1 (by simp) (by simp) ?_
     intro cap' arr' e1 e2 e3
     repeat' (first|refine zA rfl ?_|refine aA ?_)
     refine⟨rfl,rfl,cap',arr',by simpa [h] using e1,e2,?_,?_⟩
     ·rw[Nat.mul_one,Nat.mul_one,c3] at e3
      simp only[List.length_append,h,List.length_cons,List.length_nil]
      refine e3.trans ?_
      simp[b8,AV.cells,gH]
     ·simp only[List.length_append,h,List.length_cons,List.length_nil]
      exact aG.le_cons rfl (aG.le_cons rfl (aG.le_cons rfl (aG.le_cons rfl (aG.le_nil rfl))))
   ·rintro O N ⟨cap,arr,c1,c2,c3,hN⟩
    have hle:=FS m 4
    have hp:(nb m).length≤4:=hle
    rcases (by omega:(nb m).length=0∨(nb m).length=1∨(nb m).length=2∨(nb m).length=3∨(nb m).length=4) with h|h|h|h|h
    all_goals
     rw[h] at c1 c3 hN
     have hq:=a2c h
     obtain⟨a0,l0,rfl⟩:∃a l,arr=a::l:=by
      cases arr with
      |nil=>simp at c3
      |cons a l=>exact⟨a,l,rfl⟩
     refine⟨NE _ cap (a0::l0),aG.le_trans (aG.le_cons (i:=1) rfl (aG.le_cons (i:=2) rfl (aG.le_cons rfl (aG.le_nil rfl)))) hN,rfl,?_⟩
     repeat' (first|refine NQ aF rfl ?_|refine GZ aF rfl ?_|refine zA rfl ?_|refine aA ?_|refine aL rfl ?_)
     refine a2e aF rfl rfl rfl rfl rfl rfl rfl rfl rfl rfl rfl rfl rfl (bs:=gN m) ?_ (by exact S3 c2 c1) c1 ?_
     ·rw[hq]
      exact YG c3
     repeat' (first|refine zA rfl ?_|refine aA ?_|refine aL rfl ?_)
     refine uP (N:=⟨_,[]⟩) rfl (aG.le_nil rfl) rfl ⟨_,rfl,_,rfl,aI.of_closed (aS (aV aP aB))⟩
  ·have h2:=of_decide_eq_true d2
   unfold MJ
   rw[if_neg (by omega)]
   repeat' (first|refine zB rfl (by first|exact d1|exact d2) ?_|refine zA rfl ?_|refine aA ?_|refine aL rfl ?_)
   exact⟨_,rfl,_,rfl,aI.of_closed (aS (aV aP aB))⟩
 ·have h1:=of_decide_eq_true d1
  unfold MJ
  rw[if_neg (by omega)]
  repeat' (first|refine zB rfl d1 ?_|refine zA rfl ?_|refine aA ?_|refine aL rfl ?_)
  exact⟨_,rfl,_,rfl,aI.of_closed (aS (aV aP aB))⟩
end Go.Proofs.YteliblifgdofgaaGreatDoor
namespace Go.Ab
open Go.RowKit
section
variable {P:Program} {τ:Tab} {ops:Array Oper} {cls:Nat→fQ} {Q:AX→AF→aG→Prop} {ds:List bJ} {ls:List Nat} {i:Nat} {t:List (Nat×AV)} {M:aG}
def O3 (τ:Tab) (ops:Array Oper) (ds:List bJ) (i:Nat) (t:List (Nat×AV)):Option (Nat×List UInt8×Int×Int):=
 match ops[i]? with
 |some o=>(match aT ops ⟨t,ds⟩ o,o.dst,o.op with
  |some true,some d,.slice ty X L H none=>(match AF.ev ⟨t,ds⟩ X,aJ τ ty with
   |.str s,some ti=>(match ti.k,rK (L.map (AF.ev ⟨t,ds⟩)) 0,rK (H.map (AF.ev ⟨t,ds⟩)) s.length with
    |.str,some lo,some hi=>some (d,s,lo,hi)
    |_,_,_=>none)
   |_,_=>none)
  |_,_,_=>none)
 |none=>none
theorem mJ (hτ:TabOK P τ) {d:Nat} {s x:List UInt8} {lo hi:Int} (hs:O3 τ ops ds i t=some (d,s,lo,hi)) (hx:0≤lo∧lo≤hi∧hi≤s.length∧(s.take hi.toNat).drop lo.toNat=x) (h:DW P ops cls Q ds ls ((d,.str x)::t) M):DW P ops cls Q ds (i::ls) t M:=by
 obtain⟨h0,h1,h2,rfl⟩:=hx
 unfold O3 at hs
 split at hs
 ·rename_i o hi'
  split at hs
  ·rename_i d' ty X L H hw hd ho
   split at hs
   ·rename_i s' ti hX ht
    split at hs
    ·rename_i lo' hi2 hk hL hH
     cases hs
     exact DT hτ hi' hw hd ho hX ht hk hL hH h0 h1 h2 h
    ·cases hs
   ·cases hs
  ·cases hs
 ·cases hs
def O8 (τ:Tab) (ops:Array Oper) (ds:List bJ) (i:Nat) (t:List (Nat×AV)):Option (Nat×Nat×List AV×Int×Int):=
 match ops[i]? with
 |some o=>(match aT ops ⟨t,ds⟩ o,o.dst,o.op with
  |some true,some d,.slice ty X L H none=>(match AF.ev ⟨t,ds⟩ X,aJ τ ty with
   |.sl sz xs tg,some ti=>(match ti.k with
    |.slice e=>(match aJ τ e with
     |some ei=>(match decide (sz=ei.size),rK (L.map (AF.ev ⟨t,ds⟩)) 0,rK (H.map (AF.ev ⟨t,ds⟩)) xs.length with
      |true,some lo,some hi=>some (d,sz,xs,lo,hi)
      |_,_,_=>none)
     |none=>none)
    |_=>none)
   |_,_=>none)
  |_,_,_=>none)
 |none=>none
theorem m7 (hτ:TabOK P τ) {d sz:Nat} {xs ys:List AV} {lo hi:Int} (hs:O8 τ ops ds i t=some (d,sz,xs,lo,hi)) (hx:0≤lo∧lo≤hi∧hi≤xs.length∧(xs.take hi.toNat).drop lo.toNat=ys) (h:DW P ops cls Q ds ls ((d,.sl sz ys .none)::t) M):DW P ops cls Q ds (i::ls) t M:=by
 obtain⟨h0,h1,h2,rfl⟩:=hx
 unfold O8 at hs
 split at hs
 ·rename_i o hi'
  split at hs
  ·rename_i d' ty X L H hw hd ho
   split at hs
   ·rename_i sz' xs' tg ti hX ht
    split at hs
    ·rename_i e hk
     split at hs
     ·rename_i ei he
      split at hs
      ·rename_i lo' hi2 hsz hL hH
       cases hs
       exact sF hτ hi' hw hd ho hX ht hk he (of_decide_eq_true hsz) hL hH h0 h1 h2 h
      ·cases hs
     ·cases hs
    ·cases hs
   ·cases hs
  ·cases hs
 ·cases hs
def NZ (ops:Array Oper) (ds:List bJ) (i:Nat) (t:List (Nat×AV)):Option (Nat×List UInt8×List UInt8):=
 match ops[i]? with
 |some o=>(match aT ops ⟨t,ds⟩ o,o.dst,o.op with
  |some true,some d,.binOp .add _ X Y _=>(match AF.ev ⟨t,ds⟩ X,AF.ev ⟨t,ds⟩ Y with
   |.str a,.str b=>some (d,a,b)
   |_,_=>none)
  |_,_,_=>none)
 |none=>none
theorem WC {d:Nat} {a b x:List UInt8} (hs:NZ ops ds i t=some (d,a,b)) (hx:a.length+b.length≤9223372036854775807∧a++b=x) (h:DW P ops cls Q ds ls ((d,.str x)::t) M):DW P ops cls Q ds (i::ls) t M:=by
 obtain⟨hl,rfl⟩:=hx
 unfold NZ at hs
 split at hs
 ·rename_i o hi'
  split at hs
  ·rename_i d' xt X Y yt hw hd ho
   split at hs
   ·rename_i a' b' hX hY
    cases hs
    exact CU hi' hw hd ho hX hY hl h
   ·cases hs
  ·cases hs
 ·cases hs
end
end Go.Ab
