/- Parts of the proof, one behind the other. No further condition. -/
import Derived.Test.YthnhbmlefiafaaaGreatDoorK09
import Derived.RangeFuncRecord
set_option linter.unusedVariables false
set_option linter.unusedSimpArgs false
set_option maxRecDepth 100000
set_option maxHeartbeats 8000000
namespace Go.Ab
open Go.RowKit
theorem pH {μ:Mu} {F:cO} {M:aI} {w w':World} (h:eP μ F M w) (hb:Below w.heap.size w w') {o:Obj} {vs:Array Value} {t:List (Nat×AV)} {b:Nat} (hnew:w.heap.size≤b)
  (hc:w'.heap[b]? =some o) (hr:∀i,bR μ F w ((aK t i).getD .top) (vs.getD i undef)):
  eB w μ w' (μ.put M.next (.at b))∧eP (μ.put M.next (.at b)) F (M.push (.raw none o vs t)) w':=by
 have hn:=mL h
 have hown:∀k o,jX (μ.put M.next (.at b)) k o→k=b∨jX μ k o:=by
  rintro k o ⟨id,h1|⟨e,g,h1,he⟩⟩
  ·unfold Mu.put at h1
   split at h1
   ·cases h1;exact .inl rfl
   ·exact .inr ⟨id,.inl h1⟩
  ·unfold Mu.put at h1
   split at h1
   ·cases h1
   ·exact .inr ⟨id,.inr ⟨e,g,h1,he⟩⟩
 have hev:eB w μ w' (μ.put M.next (.at b)):=eB.push hb hn fun k o ho hk=>by
  rcases hown k o ho with rfl|ho
  ·omega
  ·exact ho
 refine⟨hev,?_,?_,?_,?_,?_,?_,?_⟩
 ·intro id
  have:=h.dom id
  unfold Mu.put aI.push
  simp only
  split
  ·rename_i e;subst e;simp
  ·rename_i e
   rw[this]
   omega
 ·intro id l' hl
  rw[aI.get_push] at hl
  split at hl
  ·cases hl
  ·rename_i e
   obtain⟨b',c',ty',h1,h2,h3,h4,h5⟩:=h.obj id l' hl
   have hlt:b' < w.heap.size:=(Array.getElem?_eq_some_iff.1 h2).1
   exact⟨b',c',ty',by simp[Mu.put,e,h1],(hb.block b' hlt).trans h2,h3,h4,fun i x v hx hv=>(h5 i x v hx hv).evo hev⟩
 ·intro id g hl
  rw[aI.get_push] at hl
  split at hl
  ·cases hl
  ·rename_i e
   obtain⟨p,h1,h2⟩:=h.spare id g hl
   refine⟨p,by simp[Mu.put,e,h1],fun b' e' hp=>?_⟩
   obtain⟨c',ty',fr,h3,h4,h5⟩:=h2 b' e' hp
   have hlt:b' < w.heap.size:=(Array.getElem?_eq_some_iff.1 h3).1
   exact⟨c',ty',fr,(hb.block b' hlt).trans h3,h4,h5⟩
 ·have lie:∀i k,dS (μ.put M.next (.at b)) i k→(i=M.next∧k=b)∨dS μ i k:=by
   rintro i k (h1|⟨e,g,h1⟩)
   ·unfold Mu.put at h1
    split at h1
    ·cases h1;exact .inl ⟨by assumption,rfl⟩
    ·exact .inr (.inl h1)
   ·unfold Mu.put at h1
    split at h1
    ·cases h1
    ·exact .inr (.inr ⟨e,g,h1⟩)
  have old:∀i k,dS μ i k→k < w.heap.size:=by
   rintro i k (h1|⟨e,g,h1⟩)
   ·exact h.fit.own k 0 ⟨i,.inl h1⟩
   ·exact h.fit.own k e ⟨i,.inr ⟨e,g,h1,Nat.le_refl _⟩⟩
  intro i j k hi hj
  rcases lie i k hi with ⟨h1,h2⟩|h1<;>rcases lie j k hj with ⟨h3,h4⟩|h3
  ·exact h1.trans h3.symm
  ·have:=old j k h3;omega
  ·have:=old i k h1;omega
  ·exact h.inj i j k h1 h3
 ·intro k o ho hF
  rcases hown k o ho with rfl|ho
  ·have:=h.fit.frm k o hF;omega
  ·exact h.frm k o ho hF
 ·refine⟨fun k o ho=>?_,fun k o hF=>Nat.lt_of_lt_of_le (h.fit.frm k o hF) hb.size⟩
  rcases hown k o ho with rfl|ho
  ·exact (Array.getElem?_eq_some_iff.1 hc).1
  ·exact Nat.lt_of_lt_of_le (h.fit.own k o ho) hb.size
 ·intro id gg o' vs' t' hl
  rw[aI.get_push] at hl
  split at hl
  ·rename_i e
   cases hl
   exact⟨b,by simp[mM,Mu.put,e],hc,fun i=>(hr i).evo hev⟩
  ·rename_i e
   obtain⟨b',h1,h2,h3⟩:=h.raw id gg o' vs' t' hl
   have hlt:b' < w.heap.size:=(Array.getElem?_eq_some_iff.1 h2).1
   exact⟨b',h1.congr (by simp[Mu.put,e]),(hb.block b' hlt).trans h2,fun i=>(h3 i).evo hev⟩
theorem DQ (w:World) (b:Nat) (o:Obj):w6 w b (w.putObj b o):=⟨rfl,rfl,rfl,by simp,fun k hk=>World.putObj_heap_other hk⟩
theorem pJ {μ:Mu} {F:cO} {M:aI} {w:World} (h:eP μ F M w) {id b:Nat} {o:Obj} {vs:Array Value} {t:List (Nat×AV)} (hM:M.get id=some (.raw none o vs t)) (hid:μ id=some (.at b)) (o':Obj) (hno:∀c ty fr,o≠.cells c ty fr):
  w.heap[b]? =some o∧eB w μ (w.putObj b o') μ∧eP μ F (M.set id (.raw none o' vs t)) (w.putObj b o'):=by
 obtain⟨b0,k1,k2,k3⟩:=h.raw id none o vs t hM
 have k1:μ id=some (.at b0):=k1
 rw[hid] at k1
 cases k1
 have hw:=DQ w b o'
 have hlt:b < w.heap.size:=(Array.getElem?_eq_some_iff.1 k2).1
 have hev:eB w μ (w.putObj b o') μ:=by
  refine⟨hw.os,hw.tape,hw.output,Nat.le_of_eq hw.size.symm,fun _ _=>.inl rfl,?_,?_,fun _ _ _ h=>h⟩
  ·intro k hk hn
   refine hw.other k ?_
   rintro rfl
   exact hn 0 ⟨id,.inl hid⟩
  ·intro k e c' ty' fr hk hn hc'
   by_cases hkb:k=b
   ·subst hkb
    rw[k2] at hc'
    cases hc'
    exact absurd rfl (hno _ _ _)
   ·exact⟨c',fr,(hw.other k hkb).trans hc',rfl,fun _ _=>rfl⟩
 refine⟨k2,hev,h.dom,?_,?_,h.inj,h.frm,⟨fun k o ho=>by rw[hw.size];exact h.fit.own k o ho,fun k o ho=>by rw[hw.size];exact h.fit.frm k o ho⟩,?_⟩
 ·intro i l' hl
  rw[aI.get_set] at hl
  split at hl
  ·cases hl
  ·rename_i e
   obtain⟨b',c',ty',h1,h2,h3,h4,h5⟩:=h.obj i l' hl
   have hne:b'≠b:=by
    rintro rfl
    exact e (h.inj i id b' (.inl h1) (.inl hid))
   exact⟨b',c',ty',h1,(hw.other b' hne).trans h2,h3,h4,fun i x v hx hv=>(h5 i x v hx hv).evo hev⟩
 ·intro i g hl
  rw[aI.get_set] at hl
  split at hl
  ·cases hl
  ·rename_i e
   obtain⟨p,h1,h2⟩:=h.spare i g hl
   refine⟨p,h1,fun b' e' hp=>?_⟩
   obtain⟨c',ty',fr,h3,h4,h5⟩:=h2 b' e' hp
   have hne:b'≠b:=by
    rintro rfl
    subst hp
    exact e (h.inj i id b' (.inr ⟨e',g,h1⟩) (.inl hid))
   exact⟨c',ty',fr,(hw.other b' hne).trans h3,h4,h5⟩
 ·intro i gg o2 vs2 t2 hl
  rw[aI.get_set] at hl
  split at hl
  ·rename_i e
   cases hl
   subst e
   exact⟨b,hid,World.putObj_heap_same hlt,fun i=>(k3 i).evo hev⟩
  ·rename_i e
   obtain⟨b',h1,h2,h3⟩:=h.raw i gg o2 vs2 t2 hl
   have hne:b'≠b:=by
    rintro rfl
    exact e (h.inj i id b' h1.lies (.inl hid))
   exact⟨b',h1,(hw.other b' hne).trans h2,fun i=>(h3 i).evo hev⟩
def fS (P:Program) (y:Nat) (args:List AV) (M:aI) (R:dG→aI→Prop):Prop:=
 ∀(r:Option Nat) (μ:Mu) (F:cO) (w:World) (vs:Array Value) (b:Nat),eP μ F M w→μ y=some (.at b)→dB μ F w args vs→
  ∃fn tmps assign body,(Instr.yield b vs).run P w=.ok (.round b fn tmps assign body) w∧RoundIn (B1 r) 8 P b fn tmps assign body w (jL F μ w R)
theorem fS.mono {P:Program} {y:Nat} {args:List AV} {M:aI} {R R':dG→aI→Prop} (h:fS P y args M R) (hr:∀e M,R e M→R' e M):fS P y args M R':=by
 intro r μ F w vs b hg hb hv
 obtain⟨fn,tmps,assign,body,h1,h2⟩:=h r μ F w vs b hg hb hv
 refine⟨fn,tmps,assign,body,h1,h2.mono ?_⟩
 rintro e w' ⟨μ',M',k1,k2,k3⟩
 refine⟨μ',M',k1,k2,?_⟩
 cases e with
 |returned v=>obtain⟨x,h4,h5⟩:=k3;exact⟨x,h4,hr _ _ h5⟩
 |panicked ch=>obtain⟨x,v,h4,h5,h6⟩:=k3;exact⟨x,v,h4,h5,hr _ _ h6⟩
 |outgrown=>exact k3
theorem fS.le {P:Program} {y:Nat} {args:List AV} {M N:aI} {R:dG→aI→Prop} (hM:N.le M) (h:fS P y args N R):fS P y args M R:=
 fun r μ F w vs b hg hb hv=>h r μ F w vs b (hg.le hM) hb hv
theorem M7 {r:Option Nat} {P:Program} {o:Oper} {a:Act} {w w':World} {next:Act→World→Prop} {Q:Exit→Act→World→Prop} {l:Nat} {f:FuncId} {tmps:Array Value} {assign body:Code}
  (h:(execOp a.eval o).run P w=.ok (.round l f tmps assign body) w')
  (hk:RoundIn (B1 r) 8 P l f tmps assign body w' fun
   |.returned v,w''=>next (a.put o.dst v) w''
   |.panicked chain,w''=>Q (.panic chain) a w''
   |.outgrown,_=>LetsOut Q):o.wpIn (B1 r) 9 P a w next Q:=by
 refine⟨fun _ _=>trivial,?_⟩
 have:=CC (r:=r) h (by intro d e;cases e)
 show o.uponIn (B1 r) 9 P a next Q ((o.semAt r a.eval).run P w)
 rw[this]
 exact⟨fun h=>(by cases h),hk⟩
theorem SD {P:Program} {o:Oper} {x:Operand} {ags:Array Operand} {ts:Array TypeId} (ho:o.op=.call {callee:=.value x,args:=ags,argTypes:=ts}) {ρ:Operand→AV} {M:aI} {y:Nat} {ob:Obj} {vs:Array Value} {t:List (Nat×AV)}
  (hx:ρ x=.yld y) (hM:M.get y=some (.raw none ob vs t)) {R:dG→aI→Prop} (hc:fS P y (ags.toList.map ρ) M R) {K Kp:AV→aI→Prop} (h1:∀u M',R (.ret u) M'→K u M') (h2:∀u M',R (.pan u) M'→Kp u M'):GH P o ρ M K Kp:=by
 intro r μ F w a hg hr next Q' g1 g2
 have hv:=hr x (by simp[ho,Op.operands,Call.operands])
 rw[hx] at hv
 obtain⟨b,hb,_,_⟩:=hg.raw y none ob vs t hM
 have he:a.eval x=.func (.yield b) #[] #[]:=by
  generalize a.eval x=u at hv
  cases hv with
  |yld _ _ _ _ h3=>exact h3 b hb
 have hargs:dB μ F w (ags.toList.map ρ) (ags.map a.eval):=dB.map fun y hy=>hr y (by simp[ho,Op.operands,Call.operands,hy])
 obtain⟨fn,tmps,assign,body,k1,k2⟩:=hc r μ F w _ b hg hb hargs
 have hrun:(execOp a.eval o).run P w=.ok (.round b fn tmps assign body) w:=by
  simp[execOp,ho,resolve,he,Deferred.ofValue,invoke,k1]
 refine M7 hrun (k2.mono ?_)
 rintro e w' ⟨μ',M',e1,e2,e3⟩
 cases e with
 |returned v=>
  obtain⟨u,e4,e5⟩:=e3
  exact g1 μ' M' w' v u e1 e2 e4 (h1 u M' e5)
 |panicked ch=>
  obtain⟨u,v,rfl,e4,e5⟩:=e3
  exact g2 μ' M' w' v u e1 e2 e4 (h2 u M' e5)
 |outgrown=>exact e3.elim
section
variable {P:Program} {ops:Array Oper} {cls:Nat→fZ} {Q:AX→AF→aI→Prop} {ds:List bH} {ls:List Nat} {i:Nat} {t:List (Nat×AV)} {M:aI}
def a3o (ops:Array Oper) (cls:Nat→fZ) (ds:List bH) (i:Nat) (t:List (Nat×AV)):Option (Option Nat×Nat×List AV):=
 match ops[i]? with
 |some o=>(match aV ops ⟨t,ds⟩ o,cls i,o.op with
  |some true,.Y,.call {callee:=.value y,args:=ags,argTypes:=_}=>(match AF.ev ⟨t,ds⟩ y with
   |.yld id=>some (o.dst,id,ags.toList.map (AF.ev ⟨t,ds⟩))
   |_=>none)
  |_,_,_=>none)
 |none=>none
theorem a14 {d:Nat} {y:Nat} {args:List AV} {R:dG→aI→Prop} (hs:a3o ops cls ds i t=some (some d,y,args)) {ob:Obj} {vs:Array Value} {t0:List (Nat×AV)} (hM:M.get y=some (.raw none ob vs t0)) (hcall:fS P y args M R)
  (h1:∀u M',R (.ret u) M'→DW P ops cls Q ds ls ((d,u)::t) M') (h2:∀u M',R (.pan u) M'→Q (.panic u) ⟨dE ds,ds⟩ M'):DW P ops cls Q ds (i::ls) t M:=by
 unfold a3o at hs
 split at hs
 ·rename_i o hi
  split at hs
  ·rename_i yy ags ts hw hcl ho
   split at hs
   ·rename_i id hx
    simp only[Option.some.injEq,Prod.mk.injEq] at hs
    obtain⟨hd,rfl,rfl⟩:=hs
    refine fA hi hw ?_
    rw[hcl]
    refine SD ho hx hM hcall ?_ h2
    intro u M' hu
    have:=h1 u M' hu
    simpa [AF.put,hd] using this
   ·cases hs
  ·cases hs
 ·cases hs
end
def fC (fn:FuncId) (tmps:Array Value) (ps:Array Tmp) (assign body:Code) (D:Nat) (st:LoopState) (pe:Option Code):Loop:=
 {state:=st,pending:=pe,fn,tmps,params:=ps,assign,body,defers:=D}
def GR:List Nat→List AV→List (Nat×AV)→List (Nat×AV)
 |p::ps,a::avs,t=>GR ps avs ((p,a)::t)
 |_,_,t=>t
theorem P2 {μ:Mu} {F:cO} {w:World}:∀(ps:List Nat) (avs:List AV) (vs:List Value) (t:List (Nat×AV)) (tm:Array Value),ps.length=avs.length→vs.length=avs.length→(∀p,p∈ps→p < tm.size)→
  (∀(i:Nat) (x:AV) (v:Value),avs[i]? =some x→vs[i]? =some v→bR μ F w x v)→(∀i,bR μ F w ((aK t i).getD .top) (tm.getD i undef))→
  ∀i,bR μ F w ((aK (GR ps avs t) i).getD .top) (((ps.zip vs).foldl (fun (tm:Array Value) (p:Nat×Value)=>tm.setIfInBounds p.1 p.2) tm).getD i undef)
 |[],[],[],t,tm,_,_,_,_,h=>h
 |p::ps,a::avs,v::vs,t,tm,h1,h2,h3,h4,h=>by
  simp only[List.zip_cons_cons,List.foldl_cons,GR]
  refine P2 ps avs vs _ _ (by simpa using h1) (by simpa using h2) (fun q hq=>by rw[Array.size_setIfInBounds];exact h3 q (by simp[hq])) (fun i x u hx hu=>h4 (i+1) x u (by simpa using hx) (by simpa using hu)) ?_
  intro i
  simp only[aK]
  by_cases e:i=p
  ·subst e
   have:=h3 i (by simp)
   simp only[if_true,Option.getD_some]
   rw[Array.getD_eq_getD_getElem?,Array.getElem?_setIfInBounds]
   simp only[this,if_true,Option.getD_some]
   exact h4 0 a v rfl rfl
  ·rw[if_neg e,Array.getD_eq_getD_getElem?,Array.getElem?_setIfInBounds_ne (Ne.symm e),←Array.getD_eq_getD_getElem?]
   exact h i
 |[],_::_,_,_,_,h1,_,_,_,_=>by simp at h1
 |_::_,[],_,_,_,h1,_,_,_,_=>by simp at h1
 |[],[],_::_,_,_,_,h2,_,_,_=>by simp at h2
 |_::_,_::_,[],_,_,_,h2,_,_,_=>by simp at h2
theorem HW:∀(l:List (Nat×Value)) (tm:Array Value),(l.foldl (fun (tm:Array Value) (p:Nat×Value)=>tm.setIfInBounds p.1 p.2) tm).size=tm.size
 |[],_=>rfl
 |_::l,tm=>by rw[List.foldl_cons,HW l];simp
def a4j (y:Nat) (fn:FuncId) (tmps:Array Value) (ps:Array Tmp) (assign body:Code) (D:Nat) (t:List (Nat×AV)) (R:dG→aI→Prop):AX→AF→aI→Prop
 |.normal,_,M=>M.get y=some (.raw none (.loop (fC fn tmps ps assign body D .busy none)) tmps t)∧R (.ret (.bool true)) (M.set y (.raw none (.loop (fC fn tmps ps assign body D .ready none)) tmps t))
 |.ret,_,M=>M.get y=some (.raw none (.loop (fC fn tmps ps assign body D .busy none)) tmps t)∧R (.ret (.bool false)) (M.set y (.raw none (.loop (fC fn tmps ps assign body D .done (some .ret))) tmps t))
 |.exit id,_,M=>M.get y=some (.raw none (.loop (fC fn tmps ps assign body D .busy none)) tmps t)∧R (.ret (.bool false)) (M.set y (.raw none (.loop (fC fn tmps ps assign body D .done (some (.exit id)))) tmps t))
 |.panic _,_,_=>False
theorem s9 {P:Program} {y:Nat} {args:List AV} {M:aI} {R:dG→aI→Prop} {fn:FuncId} {tmps:Array Value} {ps:Array Tmp} {assign body:Code} {D n:Nat} {t:List (Nat×AV)}
  (hM:M.get y=some (.raw none (.loop (fC fn tmps ps assign body D .ready none)) tmps t)) (hn:tmps.size=n) (hp:ps.toList.length=args.length) (hps:(ps.toList.all fun p=>decide (p < n))=true)
  (h:∀l,W (some l) P n assign (t7 (fun f1 M1=>M1.get y=some (.raw none (.loop (fC fn tmps ps assign body D .ready none)) tmps t)∧W (some l) P n body (a4j y fn tmps ps assign body D t R) f1 (M1.set y (.raw none (.loop (fC fn tmps ps assign body D .busy none)) tmps t))) (fun _ _ _=>False)) ⟨GR ps.toList args t,[]⟩ M):
  fS P y args M R:=by
 intro r μ F w vs b hg hb hv
 obtain⟨hl,_,_⟩:=pJ hg hM hb (.loop (fC fn tmps ps assign body D .busy none)) (by intro c ty fr e;cases e)
 obtain⟨b0,k1,_,k3⟩:=hg.raw y _ _ _ _ hM
 have hsz:vs.size=ps.size:=by rw[hv.1,←hp];simp
 refine⟨fn,_,assign,body,run_yield hl hsz,?_⟩
 refine roundIn_of_wpIn (F:=B1 r) (n:=8) trivial ?_
 suffices key:∀tm:Array Value,tm=(ps.toList.zip vs.toList).foldl (fun (tm:Array Value) (p:Nat×Value)=>tm.setIfInBounds p.1 p.2) tmps→assign.wpIn (B1 (some b)) 9 P (Exit.then (fun a₁ w₁=>∃w₂,(Instr.beginRound b).run P w₁=.ok () w₂∧body.wpIn (B1 (some b)) 8 P (roundPost P b (jL F μ w R)) a₁ w₂) (fun _ _ _=>False)) {tmps:=tm,defers:=[]} w by
  refine XS (r:=some b) (n:=9) (key _ ?_)
  rw[←Array.toList_zip,Array.foldl_toList]
  rfl
 intro tm htm
 have hfr:iM μ F w n ⟨GR ps.toList args t,[]⟩ {tmps:=tm,defers:=[]}:=by
  subst htm
  refine⟨by rw[HW,hn],?_,trivial,fun p hp=>by cases hp⟩
  intro i
  refine P2 _ _ _ _ _ hp (by rw[Array.length_toList,hv.1]) (fun p hp=>?_) (fun i x v hx hu=>hv.2 i x v hx (by simpa using hu)) k3 i
  rw[hn]
  exact of_decide_eq_true (List.all_eq_true.1 hps p hp)
 refine wpIn_mono ((h b).run μ F w _ hg hfr) ?_
 rintro e a' w' ⟨μ',f',M',x,h1,h2,h3,h4,h5⟩
 cases e with
 |normal=>
  cases x<;>simp only[EU] at h4
  obtain⟨g1,g2⟩:=h5
  obtain⟨b1,m1,m2,_⟩:=h2.raw y _ _ _ _ g1
  have hbb:b1=b:=by
   rcases h1.mu y (by rw[hb];simp) with h|h|⟨_,_,_,_,h,_⟩
   ·rw[m1,hb] at h;cases h;rfl
   ·rw[m1] at h;cases h
   ·rw[hb] at h;cases h
  subst hbb
  obtain⟨_,e2,e3⟩:=pJ h2 g1 m1 (.loop (fC fn tmps ps assign body D .busy none)) (by intro c ty fr e;cases e)
  refine⟨w'.putObj b1 (.loop (fC fn tmps ps assign body D .busy none)),run_beginRound m2 rfl,?_⟩
  refine XS (r:=some b1) (n:=9) (wpIn_mono (g2.run μ' F _ a' e3 (h3.evo e2)) ?_)
  have fin:∀(jump:Option Code) (M2:aI) (μ2:Mu) (w2:World),eB (w'.putObj b1 (.loop (fC fn tmps ps assign body D .busy none))) μ' w2 μ2→eP μ2 F M2 w2→M2.get y=some (.raw none (.loop (fC fn tmps ps assign body D .busy none)) tmps t)→
    R (.ret (.bool jump.isNone)) (M2.set y (.raw none (.loop (fC fn tmps ps assign body D (if jump.isNone then .ready else .done) jump)) tmps t))→
    ∃v w3,(Instr.endRound b1 jump).run P w2=.ok v w3∧jL F μ w R (.returned v) w3:=by
   intro jump M2 μ2 w2 q1 q2 q3 q4
   obtain⟨b2,n1,n2,_⟩:=q2.raw y _ _ _ _ q3
   have hbb:b2=b1:=by
    rcases q1.mu y (by rw[m1];simp) with h|h|⟨_,_,_,_,h,_⟩
    ·rw[n1,m1] at h;cases h;rfl
    ·rw[n1] at h;cases h
    ·rw[m1] at h;cases h
   subst hbb
   obtain⟨_,e5,e6⟩:=pJ q2 q3 n1 (.loop (fC fn tmps ps assign body D (if jump.isNone then .ready else .done) jump)) (by intro c ty fr e;cases e)
   exact⟨_,_,run_endRound jump n2,μ2,_,((h1.trans e2).trans q1).trans e5,e6,_,.bool _,q4⟩
  rintro e a2 w2 ⟨μ2,f2,M2,x2,q1,q2,q3,q4,q5⟩
  cases e with
  |normal=>cases x2<;>simp only[EU] at q4;exact fin none M2 μ2 w2 q1 q2 q5.1 q5.2
  |exit id=>cases x2<;>simp only[EU] at q4;subst q4;exact fin (some (.exit id)) M2 μ2 w2 q1 q2 q5.1 q5.2
  |goto l=>cases x2<;>exact q4.elim
  |ret=>cases x2<;>simp only[EU] at q4;exact fin (some .ret) M2 μ2 w2 q1 q2 q5.1 q5.2
  |panic ch=>cases x2<;>first|exact q4.elim|exact q5.elim
  |outgrown=>cases x2<;>exact q4.elim
 |exit id=>cases x<;>first|exact h4.elim|exact h5.elim
 |goto l=>cases x<;>exact h4.elim
 |ret=>cases x<;>first|exact h4.elim|exact h5.elim
 |panic ch=>cases x<;>first|exact h4.elim|exact h5.elim
 |outgrown=>cases x<;>exact h4.elim
def nW (y:Nat):bH:={f:=.func 0,cap:=[],args:=[],mark:=some y}
def l7:cT:=.raw none (.deferred (some [])) #[] []
def a6e (Q:AX→AF→aI→Prop) (fn:FuncId) (tmps:Array Value) (ps:Array Tmp) (assign body:Code) (D y0:Nat) (f:AF):dG→aI→Prop
 |.ret _,M=>∃st pe N,(st≠.busy)∧M.get (y0+1)=some (.raw none (.loop (fC fn tmps ps assign body D st pe)) tmps f.t)∧N.le M∧N.get (y0+1)=none∧
  (match pe with
   |none=>Q .normal ⟨f.t,nW y0::f.d⟩ N
   |some .ret=>Q .ret ⟨f.t,nW y0::f.d⟩ N
   |some (.exit id)=>Q (.exit id) ⟨f.t,nW y0::f.d⟩ N
   |some _=>False)
 |.pan v,M=>Q (.panic v) ⟨f.t,nW y0::f.d⟩ M
theorem BU {μ:Mu} {F:cO} {M N:aI} {w:World} {id:Nat} {o:cT} (h:eP μ F (M.set id o) w) (hN:N.le M) (hn:N.get id=none):eP μ F N w:=by
 refine h.le ⟨hN.1,fun i p hi=>?_⟩
 rw[aI.get_set]
 split
 ·rename_i e
  subst e
  rw[hn] at hi
  cases hi
 ·exact hN.2 i p hi
theorem EA {P:Program} {n:Nat} {g:Operand} {ps:Array Tmp} {assign body:Code} {Q:AX→AF→aI→Prop} {f:AF} {M:aI} {gf:FuncId} {lb:List AV} (hg:f.ev g=.fn (.func gf) [] lb)
  (h:∀(fn:FuncId) (tmps:Array Value) (D:Nat),tmps.size=n→aS P gf (.yld (M.next+1)::lb) ⟨M.next+2,(M.next+1,.raw none (.loop (fC fn tmps ps assign body D .ready none)) tmps f.t)::(M.next,l7)::M.objs⟩ (a6e Q fn tmps ps assign body D M.next f)):
  W none P n (.rangeFunc g ps assign body) Q f M:=by
 refine⟨fun μ F w a hG hr=>?_⟩
 have hv:=hr.ev g
 rw[hg] at hv
 obtain⟨c1,c2,he,hs1,hs2,h1,h2⟩:=hv.fn_inv
 have hc1:c1=#[]:=Array.eq_empty_of_size_eq_zero hs1
 subst hc1
 refine wpIn_rangeFunc ?_
 intro fn _
 have hcall:=h fn a.tmps w.heap.size hr.size
 obtain⟨w1,hw1⟩:∃w1,w.alloc (.deferred (some []))=w1:=⟨_,rfl⟩
 obtain⟨w2,hw2⟩:∃w2,w1.alloc (.loop (fC fn a.tmps ps assign body w.heap.size .ready none))=w2:=⟨_,rfl⟩
 have hs1:w1.heap.size=w.heap.size+1:=by rw[←hw1];simp
 have hb1:Below w.heap.size w w1:=by rw[←hw1];exact (Below.refl _ w).alloc (Nat.le_refl _) _
 have hb2:Below w1.heap.size w1 w2:=by rw[←hw2];exact (Below.refl _ w1).alloc (Nat.le_refl _) _
 obtain⟨e1,g1⟩:=pH hG hb1 (o:=.deferred (some [])) (vs:=#[]) (t:=[]) (Nat.le_refl _) (by rw[←hw1];exact World.alloc_heap_new w _) (fun i=>.top _)
 obtain⟨e2,g2⟩:=pH g1 hb2 (o:=.loop (fC fn a.tmps ps assign body w.heap.size .ready none)) (vs:=a.tmps) (t:=f.t) (Nat.le_refl _) (by rw[←hw2];exact World.alloc_heap_new w1 _) (fun i=>(hr.tmps i).evo e1)
 have hev:=e1.trans e2
 generalize hμ:(μ.put M.next (.at w.heap.size)).put (M.push (.raw none (.deferred (some [])) #[] [])).next (.at w1.heap.size)=μ2 at e2 g2 hev
 have hy:μ2 (M.next+1)=some (.at (w.heap.size+1)):=by rw[←hμ,←hs1];simp[Mu.put,aI.push]
 have hD:μ2 M.next=some (.at w.heap.size):=by rw[←hμ];simp[Mu.put,aI.push]
 have hvs:dB μ2 F w2 (.yld (M.next+1)::lb) (#[.func (.yield (w.heap.size+1)) #[] #[]]++c2):=
  (dB.cons (.yld _ _ rfl (by rw[hy];simp) (fun b hb=>by rw[hy] at hb;cases hb;rfl))).app (dB.evo hev ⟨hs2,h2⟩)
 refine⟨w.heap.size+1,[{target:=.collected w.heap.size,args:=#[]}],w2,{target:=.fn (.func gf) c2,args:=#[.func (.yield (w.heap.size+1)) #[] #[]]},w2,gf,
  #[.func (.yield (w.heap.size+1)) #[] #[]]++c2,w2,?_,?_,fun _ _=>trivial,?_,fun e=>(by cases e),?_⟩
 ·rw[←hw2,←hw1];exact run_enterLoop_outer _ _ _ _ _
 ·simp only[resolve,he]
  simp[go_sem]
 ·simp[invoke,go_sem,mB hcall.1]
 refine (HA (hcall.2 μ2 F w2 _ g2 hvs)).mono ?_
 rintro e w3 ⟨μ3,M3,k1,k2,k3⟩
 have hev3:=hev.trans k1
 have hfr:∀(μ4:Mu) (w4:World),eB w2 μ2 w4 μ4→iM μ4 F w4 n ⟨f.t,nW M.next::f.d⟩ {a with defers:=[{target:=.collected w.heap.size,args:=#[]}]++a.defers}:=by
  intro μ4 w4 q
  have hr4:=(hr.evo (hev.trans q))
  refine⟨hr4.size,hr4.tmps,?_,hr4.kept⟩
  have hd0:fY μ2 F w2 (nW M.next::f.d) ({target:=.collected w.heap.size,args:=#[]}::a.defers):=by
   show FL _ _ _ _ _∧fY _ _ _ _ _
   exact⟨⟨fun h=>(by cases h),dB.nil,fun y hy=>by cases hy;exact⟨by rw[hD];simp,fun b hb=>by rw[hD] at hb;cases hb;rfl⟩⟩,(hr.evo hev).defs⟩
  exact hd0.evo q
 cases e with
 |returned v=>
  obtain⟨u,_,st,pe,N,hst,hM3,hN,hNy,hq⟩:=k3
  obtain⟨b3,m1,m2,_⟩:=k2.raw _ _ _ _ _ hM3
  have hbb:b3=w.heap.size+1:=by
   rcases k1.mu (M.next+1) (by rw[hy];simp) with h|h|⟨_,_,_,_,h,_⟩
   ·rw[m1,hy] at h;cases h;rfl
   ·rw[m1] at h;cases h
   ·rw[hy] at h;cases h
  subst hbb
  obtain⟨_,e5,e6⟩:=pJ k2 hM3 m1 (.loop (fC fn a.tmps ps assign body w.heap.size .exhausted pe)) (by intro c ty fr e;cases e)
  have hgN:=BU e6 hN hNy
  refine⟨pe,_,run_endLoop m2 hst,?_⟩
  have hfin:=hfr μ3 _ (k1.trans e5)
  have hevN:=hev3.trans e5
  match pe,hq with
  |none,hq=>exact⟨μ3,_,N,.normal,hevN,hgN,hfin,trivial,hq⟩
  |some .ret,hq=>exact wpIn_ret ⟨μ3,_,N,.ret,hevN,hgN,hfin,trivial,hq⟩
  |some (.exit id),hq=>exact wpIn_exit ⟨μ3,_,N,.exit id,hevN,hgN,hfin,rfl,hq⟩
 |panicked ch=>
  obtain⟨x,v,rfl,q1,q2⟩:=k3
  exact⟨μ3,_,M3,.panic x,hev3,k2,hfr μ3 w3 k1,⟨v,rfl,q1⟩,q2⟩
 |outgrown=>exact k3.elim
def sN (K:aI→Prop):List bH→aI→Prop
 |[],M=>K M
 |d::ds,M=>∃y N,d=nW y∧M.get y=some l7∧N.le M∧N.get y=none∧sN K ds N
def a29 (τ:Tab) (fn:Func) (R:dG→aI→Prop):AX→AF→aI→Prop
 |.normal,f,M|.ret,f,M=>sN (fun N=>∃r,kP τ N ⟨f.t,[]⟩ fn.results=some r∧R (.ret r) N) f.d M
 |.panic v,f,M=>sN (fun N=>R (.pan v) N) f.d M
 |.exit _,_,_=>False
theorem nN {P:Program} {fn:Func} {n:Nat} {F:cO} {μ0:Mu} {w0:World} {tmps:Array Value} {K:aI→Prop} {R:Ending→World→Prop} {u:FrameMode} (hu:u≠.run)
  (hK:∀(M:aI) (μ:Mu) (w:World),K M→eB w0 μ0 w μ→eP μ F M w→LeavesIn Fence.wide n P fn tmps R [] u w):
  ∀(ds:List bH) (rs:List Deferred) (M:aI) (μ:Mu) (w:World),sN K ds M→eB w0 μ0 w μ→eP μ F M w→fY μ F w ds rs→LeavesInM Fence.wide n P fn tmps R rs u w
 |[],[],M,μ,w,h,he,hg,_=>hK M μ w h he hg
 |[],_::_,_,_,_,_,_,_,hd=>hd.elim
 |_::_,[],_,_,_,_,_,_,hd=>hd.elim
 |d::ds,r::rs,M,μ,w,h,he,hg,hd=>by
  obtain⟨y,N,rfl,hM,hN,hy,hrest⟩:=h
  obtain⟨⟨_,_,hm⟩,hds⟩:=hd
  obtain⟨b,k1,k2,_⟩:=hg.raw y _ _ _ _ hM
  obtain⟨_,e5,e6⟩:=pJ hg hM k1 (.deferred none) (by intro c ty fr e;cases e)
  refine⟨hu,.inl ⟨b,_,(hm y rfl).2 b k1,run_takeDeferred k2,?_⟩⟩
  exact nN hu hK ds rs N μ _ hrest (he.trans e5) (BU e6 hN hy) (hds.evo e5)
theorem oF {P:Program} {τ:Tab} (hτ:TabOK P τ) {g:FuncId} {fn:Func} {c:Code} (hf:P.funcs[g]? =some fn) (hb:fn.body=some c) (hn:fn.name≠ "runtime.NumGoroutine") {args:List AV} {M:aI} {R:dG→aI→Prop}
  (hlen:args.length≤fn.ntmps) (h:W none P fn.ntmps c (a29 τ fn R) (qS args) M):aS P g args M R:=by
 refine⟨⟨fn,c,hf,hb,hn⟩,fun μ F w vs hg hv=>?_⟩
 refine (callsIn_wide (n:=9)).1 ?_
 refine (callsIn_of_wp_marks (F:=Fence.wide) (n:=9) (R:=jL F μ w R) hf hb trivial ?_ rfl).mono (fun e w' hp=>hp)
 refine wpIn_mono (h.run μ F w _ hg (mI hlen hv)) ?_
 rintro e a' w' ⟨μ',f',M',x,h1,h2,h3,h4,h5⟩
 have hret:∀(N:aI) (μ1:Mu) (w1:World),(∃r,kP τ N ⟨f'.t,[]⟩ fn.results=some r∧R (.ret r) N)→eB w' μ' w1 μ1→eP μ1 F N w1→LeavesIn Fence.wide 9 P fn a'.tmps (jL F μ w R) [] .returning w1:=by
  rintro N μ1 w1 ⟨r,q1,q2⟩ q3 q4
  have hr1:iM μ1 F w1 fn.ntmps ⟨f'.t,[]⟩ {tmps:=a'.tmps,defers:=[]}:=⟨h3.size,fun t=>(h3.tmps t).evo q3,trivial,fun p hp=>by cases hp⟩
  obtain⟨v,hv',hrep⟩:=jO (P:=P) hτ q4 hr1 q1
  exact⟨v,hv',μ1,N,h1.trans q3,q4,r,hrep,q2⟩
 cases e with
 |normal=>
  cases x<;>first|exact h4.elim|skip
  exact nN (w0:=w') (μ0:=μ') (by simp) (fun N μ1 w1 q1 q2 q3=>hret N μ1 w1 q1 q2 q3) _ _ _ _ _ h5 (eB.refl _ _) h2 h3.defs
 |exit id=>cases x<;>first|exact h4.elim|exact h5.elim
 |goto l=>cases x<;>exact h4.elim
 |ret=>
  cases x<;>first|exact h4.elim|skip
  exact nN (w0:=w') (μ0:=μ') (by simp) (fun N μ1 w1 q1 q2 q3=>hret N μ1 w1 q1 q2 q3) _ _ _ _ _ h5 (eB.refl _ _) h2 h3.defs
 |panic ch=>
  cases x<;>first|exact h4.elim|skip
  obtain⟨v,rfl,hrep⟩:=h4
  have hpan:∀(N:aI) (μ1:Mu) (w1:World),R (.pan _) N→eB w' μ' w1 μ1→eP μ1 F N w1→LeavesIn Fence.wide 9 P fn a'.tmps (jL F μ w R) [] (.panicking [{v,recovered:=false}]) w1:=
   fun N μ1 w1 q1 q2 q3=>⟨μ1,N,h1.trans q2,q3,_,v,rfl,hrep.evo q2,q1⟩
  exact nN (w0:=w') (μ0:=μ') (by simp) (fun N μ1 w1 q1 q2 q3=>hpan N μ1 w1 q1 q2 q3) _ _ _ _ _ h5 (eB.refl _ _) h2 h3.defs
 |outgrown=>cases x<;>exact h4.elim
end Go.Ab
namespace Go.Ab
open Go.RowKit
theorem N6 {P:Program} {τ:Tab} (hτ:TabOK P τ) {t e:TypeId} {ti ei:TI} (ht:aK τ t=some ti) (hk:ti.k=.slice e) (he:aK τ e=some ei) (hpos:0 < ei.size) {n:Nat} {ps:Array (Nat×Operand)} {ty:TypeId} {ρ:Operand→AV} {M:aI}
  (hn:ps.size=n) (hidx:kW ps.toList 0=true) (hsz:iK ei.size (ps.toList.map fun p=>ρ p.2)=true) (hbig:n*ei.size≤16777216):
  KX P (.buildSlice t n ps) ty ρ M (.osl M.next 0 n n ei.size) (M.push (.cells (b9 (ps.toList.map fun p=>ρ p.2)))):=by
 intro μ F w ρc o hg ho hty hr
 obtain⟨ft,dt,zt,HT⟩:=TI.spec hτ ht
 obtain⟨fe,de,ze,HE⟩:=TI.spec hτ he
 have hfit:=HT.fits
 rw[hk] at hfit
 have hdd:dt=.slice e:=by
  cases dt<;>simp[TK.fits] at hfit
  rw[hfit]
 subst hdd
 have hrp:∀p,p∈ps.toList→bR μ F w (ρ p.2) (ρc p.2):=by
  intro p hp
  refine hr p.2 ?_
  simp only[Op.operands]
  rw[List.mem_toArray,List.mem_map]
  exact⟨p,hp,rfl⟩
 have hsp:=lX hsz
 have hzc:=HE.zcells μ F w
 have hzs:ze.cells.size=ei.size:=by rw[hzc.size,HE.len]
 let z0:Array Value:=(Array.range (n*ei.size)).map fun k=>ze.cells[k%ze.cells.size]!
 have hz0:JP μ F w (List.replicate (n*ei.size) .top) z0:=by
  refine⟨by simp[z0],?_,?_⟩
  ·intro i u hu
   have hi:i < n*ei.size:=by
    have:=(Array.getElem?_eq_some_iff.1 hu).1
    simpa [z0] using this
   have hm:i%ze.cells.size < ze.cells.size:=Nat.mod_lt _ (by omega)
   simp only[z0,Array.getElem?_map,Array.getElem?_range,hi,if_true,Option.map_some,Option.some.injEq] at hu
   rw[getElem!_pos ze.cells _ hm] at hu
   exact hzc.one _ u (by rw[Array.getElem?_eq_getElem hm,hu])
  ·intro i y u hy hu
   rw[List.getElem?_replicate] at hy
   split at hy<;>cases hy
   exact .top _
 have hlen:(ps.toList.map fun p=>(p.1,ρ p.2)).length=n:=by simp[hn]
 have hfull:=rX ei.size (ps.toList.map fun p=>(p.1,ρ p.2)) 0 [] (by simp) (by
  have:∀(l:List (Nat×Operand)) (k:Nat),kW l k=true→kW (l.map fun p=>(p.1,ρ p.2)) k=true:=by
   intro l
   induction l with
   |nil=>intro k _;rfl
   |cons p r ih=>
    intro k h
    simp only[kW,List.map_cons,Bool.and_eq_true] at h ⊢
    exact⟨h.1,ih _ h.2⟩
  exact this _ _ hidx) (by
  intro p hp
  obtain⟨q,hq,rfl⟩:=List.mem_map.1 hp
  exact hsp _ (List.mem_map.2 ⟨q,hq,rfl⟩))
 rw[hlen,List.nil_append,List.nil_append,List.map_map] at hfull
 obtain⟨c',hc',hcells⟩:=pD (μ:=μ) (F:=F) (w:=w) (place:=vW ei.size) (placec:=fun i=>some (i*ei.size,ei.size)) (ρ:=ρ) (ρc:=ρc) (fun i q hq=>hq) ps.toList _ z0 _ hz0 hrp hfull
 have hb:=j6 w (.cells c' e)
 have hnew:({w with heap:=w.heap.push (.cells c' e)}:World).heap[w.heap.size]? =some (.cells c' e (0,0)):=by simp
 have hpm:(ps.map fun p=>(p.1,ρc p.2)).toList=ps.toList.map fun p=>(p.1,ρc p.2):=by simp
 obtain⟨hev,hG⟩:=kQ hg hb (l:=b9 (ps.toList.map fun p:Nat×Operand=>ρ p.2)) (Nat.le_refl _) hnew hcells.size hcells.one hcells.rep
 refine⟨_,_,.slice (some ⟨w.heap.size,0,none⟩) n n,_,?_,.inl rfl,hev,hG,mY (by simp[Mu.put])⟩
 have hze:(zeroValue e).run P w=.ok ze w:=by simp[zeroValue,typeInfo,HE.info,HE.zero]
 simp only[execOp,ho,Instr.buildSlice,Sem.run_bind,run_underlying HT.und,Result.andThen_ok,run_sizeOf w HE.info,HE.cellsOf]
 rw[if_neg (by simpa using hbig)]
 by_cases h0:n*ei.size=0
 ·rw[if_pos h0]
  have hz':(Array.range (n*ei.size)).map (fun k=>(#[]:Array Value)[k%(#[]:Array Value).size]!)=z0:=by simp[z0,h0]
  simp only[Sem.run_bind,Sem.run_pure,Result.andThen_ok,hz',hpm,hc']
  simp[newRow]
 ·rw[if_neg h0]
  simp only[Sem.run_bind,hze,Sem.run_pure,Result.andThen_ok]
  have hz':(Array.range (n*ei.size)).map (fun k=>ze.cells[k%ze.cells.size]!)=z0:=rfl
  simp only[hz',hpm,hc']
  simp[newRow]
section
variable {P:Program} {τ:Tab} {ops:Array Oper} {cls:Nat→fZ} {Q:AX→AF→aI→Prop} {ds:List bH} {ls:List Nat} {i:Nat} {t:List (Nat×AV)} {M:aI}
def UD (τ:Tab) (ds:List bH) (t:List (Nat×AV)) (M:aI) (d:Nat) (ty:TypeId) (n:Nat) (ps:Array (Nat×Operand)):Option (List (Nat×AV)×List AV):=
 match aK τ ty with
 |some ti=>
  match ti.k with
  |.slice e=>
   match aK τ e with
   |some ei=>
    match decide (0 < ei.size),decide (ps.size=n),kW ps.toList 0,iK ei.size (ps.toList.map fun p=>AF.ev ⟨t,ds⟩ p.2),decide (n*ei.size≤16777216),oT (b9 (ps.toList.map fun p=>AF.ev ⟨t,ds⟩ p.2)) with
    |true,true,true,true,true,some ys=>some ((d,.osl M.next 0 n n ei.size)::t,ys)
    |_,_,_,_,_,_=>none
   |none=>none
  |_=>none
 |none=>none
def I8 (τ:Tab) (ops:Array Oper) (cls:Nat→fZ) (ds:List bH) (i:Nat) (t:List (Nat×AV)) (M:aI) (d:Nat):Option (List (Nat×AV)×List AV):=
 match ops[i]? with
 |some o=>
  match aV ops ⟨t,ds⟩ o,decide (o.dst=some d),qJ (cls i),o.op with
  |some true,true,true,.buildSlice ty n ps=>UD τ ds t M d ty n ps
  |_,_,_,_=>none
 |none=>none
theorem a27 (d:Nat) (hτ:TabOK P τ) {t':List (Nat×AV)} {ys:List AV} (hs:I8 τ ops cls ds i t M d=some (t',ys)) (h:DW P ops cls Q ds ls t' (M.push (.cells ys))):DW P ops cls Q ds (i::ls) t M:=by
 unfold I8 at hs
 split at hs
 ·rename_i o hi
  split at hs
  ·rename_i ty n ps hw hd hc ho
   unfold UD at hs
   split at hs
   ·rename_i ti ht
    split at hs
    ·rename_i e hk
     split at hs
     ·rename_i ei he
      split at hs
      ·rename_i ys' hp hn hidx hsz hbig hys
       cases hs
       have:=jK hys
       subst this
       exact rT hi hw (of_decide_eq_true hd) hc (by rw[ho];exact N6 hτ ht hk he (of_decide_eq_true hp) (of_decide_eq_true hn) hidx hsz (of_decide_eq_true hbig)) h
      ·cases hs
     ·cases hs
    ·cases hs
   ·cases hs
  ·cases hs
 ·cases hs
structure a8l where
 d:Nat
 id:Nat
 n:Nat
 cap:Nat
 sz:Nat
 bt:Nat
 l:List AV
 ys:List AV
def ZH (τ:Tab) (ds:List bH) (t:List (Nat×AV)) (M:aI) (d:Nat) (ty tx:TypeId) (s y:Operand):Option a8l:=
 match AF.ev ⟨t,ds⟩ s with
 |.osl id 0 n cap sz=>
  match M.get id,aK τ ty,aK τ tx with
  |some (.cells l),some ti,some xi=>
   match ti.k with
   |.slice e=>
    match aK τ e with
    |some ei=>
     match decide (0 < ei.size),eW xi.k (AF.ev ⟨t,ds⟩ y),decide (sz=ei.size),iU ei.size (AF.ev ⟨t,ds⟩ y) with
     |true,true,true,some ys=>some ⟨d,id,n,cap,sz,ei.bytes,l,ys⟩
     |_,_,_,_=>none
    |none=>none
   |_=>none
  |_,_,_=>none
 |_=>none
def KT (τ:Tab) (ops:Array Oper) (cls:Nat→fZ) (ds:List bH) (i:Nat) (t:List (Nat×AV)) (M:aI):Option a8l:=
 match ops[i]? with
 |some o=>
  match aV ops ⟨t,ds⟩ o,o.dst,qJ (cls i),o.op with
  |some true,some d,true,.call {callee:=.builtin .append,args:=⟨[s,y]⟩,argTypes:=⟨[ty,tx]⟩}=>ZH τ ds t M d ty tx s y
  |_,_,_,_=>none
 |none=>none
theorem YR (hτ:TabOK P τ) {d id n cap sz bt:Nat} {l ys:List AV} (hs:KT τ ops cls ds i t M=some ⟨d,id,n,cap,sz,bt,l,ys⟩) (hl:l.length=cap*sz) (hnc:n≤cap) (hb:(n+ys.length)*bt≤140737488355328) (hlen:n+ys.length≤140737488355328)
  (h:∀(cap':Nat) (l':List AV),n+ys.length≤cap'→l'.length=cap'*sz→l'.take ((n+ys.length)*sz)=l.take (n*sz)++b9 ys→DW P ops cls Q ds ls ((d,.osl M.next 0 (n+ys.length) cap' sz)::t) ((M.drop id).push (.cells l'))):DW P ops cls Q ds (i::ls) t M:=by
 unfold KT at hs
 split at hs
 ·rename_i o hi
  split at hs
  ·rename_i d' s y ty tx hw hd hc ho
   unfold ZH at hs
   split at hs
   ·rename_i id' n' cap' sz' hS
    split at hs
    ·rename_i l' ti xi hM ht hxi
     split at hs
     ·rename_i e hk
      split at hs
      ·rename_i ei he
       split at hs
       ·rename_i ys' hp hf hsz hX
        cases hs
        exact nM hτ hi hw hd hc ho hS hM ht hk he hp hxi (of_decide_eq_true hsz) hf hX hl hnc hb hlen h
       ·cases hs
      ·cases hs
     ·cases hs
    ·cases hs
   ·cases hs
  ·cases hs
 ·cases hs
def QL (τ:Tab) (ops:Array Oper) (cls:Nat→fZ) (ds:List bH) (i:Nat) (t:List (Nat×AV)) (M:aI):Option (List (Nat×AV)):=
 match ops[i]? with
 |some o=>
  match aV ops ⟨t,ds⟩ o,o.dst,qH (cls i),o.op with
  |some true,some d,true,.indexAddr ty X I=>(match AF.ev ⟨t,ds⟩ X,AF.ev ⟨t,ds⟩ I with
   |.osl id off n cap sz,.int k j=>(match M.get id,aK τ ty with
    |some (.cells l),some ti=>(match ti.k with
     |.slice e=>(match aK τ e with
      |some ei=>(match decide (0≤j),decide (j < n),decide (sz=ei.size) with
       |true,true,true=>some ((d,.ptr id (off+j.toNat*sz))::t)
       |_,_,_=>none)
      |none=>none)
     |_=>none)
    |_,_=>none)
   |_,_=>none)
  |_,_,_,_=>none
 |none=>none
theorem a5b (hτ:TabOK P τ) {t':List (Nat×AV)} (hs:QL τ ops cls ds i t M=some t') (h:DW P ops cls Q ds ls t' M):DW P ops cls Q ds (i::ls) t M:=by
 unfold QL at hs
 split at hs
 ·rename_i o hi
  split at hs
  ·rename_i d ty X I hw hd hc ho
   split at hs
   ·rename_i id off n cap sz k j hX hI
    split at hs
    ·rename_i l ti hM ht
     split at hs
     ·rename_i e hk
      split at hs
      ·rename_i ei he
       split at hs
       ·rename_i h0 hj hsz
        cases hs
        exact kY hi hw hd hc (by rw[ho];exact B0 hτ ht hk he hX hM hI (of_decide_eq_true h0) (of_decide_eq_true hj) (of_decide_eq_true hsz)) h
       ·cases hs
      ·cases hs
     ·cases hs
    ·cases hs
   ·cases hs
  ·cases hs
 ·cases hs
def HM (τ:Tab) (ops:Array Oper) (cls:Nat→fZ) (ds:List bH) (i:Nat) (t:List (Nat×AV)) (M:aI):Option (List (Nat×AV)):=
 match ops[i]? with
 |some o=>
  match aV ops ⟨t,ds⟩ o,o.dst,qH (cls i),o.op with
  |some true,some d,true,.call {callee:=.builtin .len,args:=⟨[x]⟩,argTypes:=⟨[ty]⟩}=>(match AF.ev ⟨t,ds⟩ x with
   |.osl id off n cap sz=>(match M.get id,aK τ ty with
    |some (.cells l),some ti=>(match ti.k with
     |.slice e=>some ((d,.int .i64 n)::t)
     |_=>none)
    |_,_=>none)
   |_=>none)
  |_,_,_,_=>none
 |none=>none
theorem VQ (hτ:TabOK P τ) {t':List (Nat×AV)} (hs:HM τ ops cls ds i t M=some t') (h:DW P ops cls Q ds ls t' M):DW P ops cls Q ds (i::ls) t M:=by
 unfold HM at hs
 split at hs
 ·rename_i o hi
  split at hs
  ·rename_i d x ty hw hd hc ho
   split at hs
   ·rename_i id off n cap sz hX
    split at hs
    ·rename_i l ti hM ht
     split at hs
     ·rename_i e hk
      cases hs
      exact sQ hτ hi hw hd hc ho hX hM ht hk h
     ·cases hs
    ·cases hs
   ·cases hs
  ·cases hs
 ·cases hs
end
theorem NF {μ μ2:Mu} {F:cO} {w:World} {id b n cap:Nat} {M:aI} {l xs:List AV} (hg:eP μ F M w) (hM:M.get id=some (.cells l)) (hb:μ id=some (.at b)) (hx:l.take n=xs) (hnl:n≤l.length) (hnc:n≤cap) (h1:∀x,x∈xs→x.cells=[x])
  (k2:∀b o,jX μ2 b o→∃i,i≠id∧(μ i=some (.at b)∨∃e g,μ i=some (.spare (some (b,e)) g)∧e≤o)) (k3:eB w μ w μ2):bR μ2 F w (.sl 1 xs .none) (.slice (some ⟨b,0,none⟩) n cap):=by
 obtain⟨b',c,ty,o1,o2,o3,o4,o5⟩:=hg.obj id l hM
 rw[hb] at o1
 cases o1
 have hlen:xs.length=n:=by rw[←hx,List.length_take];omega
 rw[←hlen]
 have key:∀(p:Nat) (x:AV) (q:Nat) (y:AV),xs[p]? =some x→x.cells[q]? =some y→q=0∧y=x∧l[p]? =some x∧p < l.length:=by
  intro p x q y hp hq
  rw[h1 x (List.mem_of_getElem? hp)] at hq
  have hpn:p < n:=by rw[←hlen];exact (List.getElem?_eq_some_iff.1 hp).1
  rw[←hx,List.getElem?_take,if_pos hpn] at hp
  cases q with
  |zero=>simp at hq;exact⟨rfl,hq.symm,hp,by omega⟩
  |succ q=>simp at hq
 have hcell:∀p,p < l.length→c[p]? =some (c.getD p undef):=by
  intro p hp
  have:p < c.size:=by omega
  simp[Array.getD,this]
 refine .sl 1 xs .none _ _ ⟨b,0,none⟩ (fun p=>c.getD p undef) ?_ (by omega) (fun _=>⟨rfl,rfl⟩) ?_ ?_ ?_ trivial
 ·intro x hx'
  rw[h1 x hx']
  rfl
 ·intro p x q y hp hq
  obtain⟨rfl,rfl,h4,h5⟩:=key p x q y hp hq
  rw[Nat.mul_one,Nat.add_zero]
  exact o4 p _ (hcell p h5)
 ·intro p x q y hp hq
  obtain⟨rfl,rfl,h4,h5⟩:=key p x q y hp hq
  simp only[Nat.mul_one,Nat.add_zero,Nat.zero_add]
  refine⟨by rw[cR o2];exact hcell p h5,hg.frm b p ⟨id,.inl hb⟩,?_⟩
  intro ho
  obtain⟨i',hi',h6|⟨e',g',h6,_⟩⟩:=k2 b p ho
  ·exact hi' (hg.inj i' id b (.inl h6) (.inl hb))
  ·exact hi' (hg.inj i' id b (.inr ⟨e',g',h6⟩) (.inl hb))
 ·intro p x q y hp hq
  obtain⟨rfl,rfl,h4,h5⟩:=key p x q y hp hq
  rw[Nat.mul_one,Nat.add_zero]
  exact (o5 p _ _ h4 (hcell p h5)).evo k3
end Go.Ab
namespace Go.Ab
open Go.RowKit
def a4e (P:Program) (gf:FuncId) (lb:List AV) {α:Type} (enc:α→List AV) (ok:List α→α→Prop) (out:List α):Prop:=
 ∀(y:Nat) (J:List α→aI→Prop) (M:aI),(∀L N,J L N→∃o vs t,N.get y=some (.raw none o vs t))→
  (∀L x N,J L N→ok L x→fS P y (enc x) N fun e N'=>e=.ret (.bool true)∧J (L++[x]) N')→J [] M→
  aS P gf (.yld y::lb) M fun e N=>e=.ret (.tup [])∧J out N
theorem XO {P:Program} {n:Nat} {g:Operand} {ps:Array Tmp} {assign body:Code} {Q:AX→AF→aI→Prop} {f:AF} {M:aI} {gf:FuncId} {lb:List AV} {α:Type} {enc:α→List AV} {ok:List α→α→Prop} {out:List α}
  (hg:f.ev g=.fn (.func gf) [] lb) (hit:a4e P gf lb enc ok out) (K:cT→List α→aI→Prop) (hps:∀x,ps.toList.length=(enc x).length) (hpn:(ps.toList.all fun p=>decide (p < n))=true)
  (hK:∀O L N,K O L N→N.get (M.next+1)=some O) (h0:∀O,K O [] ⟨M.next+2,(M.next+1,O)::(M.next,l7)::M.objs⟩)
  (hround:∀(O O1:cT) (L:List α) (x:α) (N:aI) (l:Nat),K O L N→ok L x→
   W (some l) P n assign (t7 (fun f1 M1=>M1.get (M.next+1)=some O∧W (some l) P n body (fun e _ N'=>e=.normal∧N'.get (M.next+1)=some O1∧K O (L++[x]) (N'.set (M.next+1) O)) f1 (M1.set (M.next+1) O1)) (fun _ _ _=>False)) ⟨GR ps.toList (enc x) f.t,[]⟩ N)
  (hdone:∀O N,K O out N→∃N',N'.le N∧N'.get (M.next+1)=none∧Q .normal ⟨f.t,nW M.next::f.d⟩ N'):
  W none P n (.rangeFunc g ps assign body) Q f M:=by
 refine EA hg fun fn tmps D hn=>?_
 refine (hit (M.next+1) (fun L N=>K (.raw none (.loop (fC fn tmps ps assign body D .ready none)) tmps f.t) L N) _ (fun L N h=>⟨_,_,_,hK _ _ _ h⟩) ?_ (h0 _)).mono ?_
 ·intro L x N hJ hok
  refine s9 (hK _ _ _ hJ) hn (hps x) hpn fun l=>?_
  refine (hround _ (.raw none (.loop (fC fn tmps ps assign body D .busy none)) tmps f.t) L x N l hJ hok).mono ?_
  rintro x1 f1 M1 h1
  cases x1 with
  |normal=>
   refine⟨h1.1,h1.2.mono ?_⟩
   rintro x2 f2 M2 ⟨rfl,h3,h4⟩
   exact⟨h3,rfl,h4⟩
  |exit id=>exact h1.elim
  |ret=>exact h1.elim
  |panic v=>exact h1.elim
 ·rintro e N ⟨rfl,hJ⟩
  obtain⟨N',h1,h2,h3⟩:=hdone _ N hJ
  exact⟨.ready,none,N',by simp,hK _ _ _ hJ,h1,h2,h3⟩
theorem uH {K:aI→Prop} {y:Nat} {M N:aI} (hM:M.get y=some l7) (hN:N.le M) (hy:N.get y=none) (h:K N):sN K [nW y] M:=⟨y,N,rfl,hM,hN,hy,h⟩
theorem aI.le_trans {A B C:aI} (h:A.le B) (k:B.le C):A.le C:=⟨h.1.trans k.1,fun i o hi=>k.2 i o (h.2 i o hi)⟩
theorem ZE {P:Program} {τ:Tab} (hτ:TabOK P τ) {s d e:TypeId} {si di ei:TI} (hs:aK τ s=some si) (hks:si.k=.slice e) (he:aK τ e=some ei) (hke:ei.k=.int .u8) (hd:aK τ d=some di) (hkd:di.k=.str) {X:Operand} {ty:TypeId} {ρ:Operand→AV} {M:aI} {id n cap:Nat} {l:List AV} {bs:List UInt8}
  (hX:ρ X=.osl id 0 n cap 1) (hM:M.get id=some (.cells l)) (hl:l.take n=bs.map fJ) (hnl:n≤l.length) (hnc:n≤cap):x7 P (.convert s d X) ty ρ M (.str bs):=by
 intro μ F w ρc o hg ho hty hr
 have hx:=hr X (by simp[Op.operands])
 rw[hX] at hx
 obtain⟨b,hb,hv⟩:=fD hg hM hx
 have hid:id < M.next:=(hg.dom id).1 (by rw[hb];simp)
 obtain⟨μ2,k1,k2,k3,k4⟩:=oO hg hid
 have hG:=k4 (M.drop id) rfl (fun j=>aI.get_drop M id j)
 have hrep:=NF hg hM hb hl hnl hnc (fun x hx=>by obtain⟨c,_,rfl⟩:=List.mem_map.1 hx;rfl) k2 k3
 obtain⟨v,w',h1,h2,h3⟩:=QR (P:=P) hτ hs hks he hke hd hkd (x:=X) (ty:=ty) (ρ:=fun _=>.sl 1 (bs.map fJ) .none) rfl μ2 F w ρc o hG.fit ho hty (fun y hy=>by
  have:y=X:=by simpa [Op.operands] using hy
  subst this
  rw[hv]
  exact hrep)
 refine⟨v,w',h1,h2,?_⟩
 cases h3
 exact .str _
theorem a2i {P:Program} {τ:Tab} {ops:Array Oper} {cls:Nat→fZ} {Q:AX→AF→aI→Prop} {ds:List bH} {ls:List Nat} {i:Nat} {o:Oper} {t:List (Nat×AV)} {M:aI} (hτ:TabOK P τ) {d:Nat} (hi:ops[i]? =some o) (hw:aV ops ⟨t,ds⟩ o=some true) (hd:o.dst=some d) (hc:qH (cls i)=true)
  {s e dt:TypeId} {X:Operand} (ho:o.op=.convert s dt X) {si di ei:TI} (hs:aK τ s=some si) (hks:si.k=.slice e) (he:aK τ e=some ei) (hke:ei.k=.int .u8) (hdt:aK τ dt=some di) (hkd:di.k=.str) {id n cap:Nat} {l:List AV} {bs:List UInt8}
  (hX:AF.ev ⟨t,ds⟩ X=.osl id 0 n cap 1) (hM:M.get id=some (.cells l)) (hl:l.take n=bs.map fJ) (hnl:n≤l.length) (hnc:n≤cap) (h:DW P ops cls Q ds ls ((d,.str bs)::t) M):DW P ops cls Q ds (i::ls) t M:=
 kY hi hw hd hc (by rw[ho];exact ZE hτ hs hks he hke hdt hkd hX hM hl hnl hnc) h
end Go.Ab
namespace Go.Proofs.YthnhbmlefiafaaaGreatDoor
open Go.Ab
def JS (n i:Nat):aG:=((tL n).take i).dropWhile (·==0)
def nb (n:Nat):aG:=JS n 4
theorem p9 {p:UInt8→Bool} (b:UInt8):∀l:aG,(l++[b]).dropWhile p=if l.dropWhile p=[] then (if p b=true then [] else [b]) else l.dropWhile p++[b]
 |[]=>by cases h:p b<;>simp[List.dropWhile,h]
 |a::l=>by
  cases h:p a
  ·simp[List.dropWhile,h]
  ·simpa [List.dropWhile,h] using p9 b l
theorem TT (n j:Nat) (h:j < 4):JS n (4 - j)=if JS n (3 - j)=[] then (if (dH n j==0)=true then [] else [dH n j]) else JS n (3 - j)++[dH n j]:=by
 have e:(tL n).take (4 - j)=(tL n).take (3 - j)++[dH n j]:=by
  match j,h with
  |0,_=>rfl
  |1,_=>rfl
  |2,_=>rfl
  |3,_=>rfl
 unfold JS
 rw[e,p9]
theorem E6 (n i:Nat):(JS n i).length≤i:=by
 have h1:(JS n i).length≤((tL n).take i).length:=(List.dropWhile_sublist _).length_le
 rw[List.length_take] at h1
 omega
def FG (n:Nat) (y:Nat) (L:aG) (k:Int):AF:=⟨[(0,.yld y),(1,.ref [.int .i64 (n:Int)]),(3,.bool (!L.isEmpty)),(4,.int .i64 k)],[]⟩
theorem Y3 (n:Nat) (hn:n < 4294967296) (y:Nat) (J:aG→aI→Prop) (M:aI) (hraw:∀L N,J L N→∃o vs t,N.get y=some (.raw none o vs t)) (hY:∀L (x:UInt8) N,J L N→L.length < 4→fS Tryz.prog y [.int .u8 (x.toNat:Int)] N fun e N'=>e=.ret (.bool true)∧J (L++[x]) N') (h0:J [] M):aS Tryz.prog 120 [.yld y,.ref [.int .i64 (n:Int)]] M (fun e N=>e=.ret (.tup [])∧J (nb n) N):=by
 refine aC aF Tryz.func120 rfl (by decide) (by simp[Tryz.f120]) ?_
 repeat' (first|refine zA rfl ?_|refine aA ?_|refine aJ rfl ?_)
 refine lV (fun m f N=>m≤4∧J (JS n (4 - m)) N∧f=FG n y (JS n (4 - m)) ((m:Int) - 1)) (k:=4) ⟨Nat.le_refl _,(by simpa [JS] using h0),rfl⟩ (aM.le ?_ (aI.le_refl _)) ?_
 ·unfold FG
  repeat (refine AF.le_cons rfl ?_)
  exact AF.le_nil rfl
 rintro m f N ⟨hm,hJ,rfl⟩
 match m,hm,hJ with
 |0,_,hJ=>
  unfold FG
  repeat' (first|refine zA rfl ?_|refine aA ?_|refine aJ rfl ?_)
  exact⟨rfl,_,rfl,rfl,hJ⟩
 |j+1,hm,hJ=>
  have hk:((j+1:Nat):Int) - 1=(j:Int):=by omega
  rw[hk]
  rw[show 4 - (j+1)=3 - j from by omega] at hJ ⊢
  have hL:=E6 n (3 - j)
  have hs:=TT n j (by omega)
  generalize JS n (3 - j)=L at hJ hs hL
  have d0:decide ((0:Int)≤(j:Int))=true:=by simp
  have d1:decide ((j:Int) < (0:Int))=false:=by simp
  have g1:IntKind.wrap .i64 (8*(j:Int))=((8*j:Nat):Int):=(Go.Ab.wrap_small (by omega) (by omega)).trans (by omega)
  have g2:Int.fdiv (n:Int) ((2:Int)^(min (((8*j:Nat):Int)).toNat IntKind.i64.bits))=((n/256^j:Nat):Int):=by
   have e1:min (((8*j:Nat):Int)).toNat IntKind.i64.bits=8*j:=by
    show min _ 64=_
    omega
   rw[e1,V5,Nat.pow_mul]
  have g3:IntKind.wrap .u8 ((n/256^j:Nat):Int)=((dH n j).toNat:Int):=RA n j _ rfl
  have g4:IntKind.wrap .i64 ((j:Int) - 1)=(j:Int) - 1:=Go.Ab.wrap_small (by omega) (by omega)
  generalize dH n j=b at g3 hs
  unfold FG
  obtain⟨o,vs,t0,hr⟩:=hraw L N hJ
  cases L with
  |nil=>
   cases hb:(b==0)
   ·have d2:(!decide ((b.toNat:Int)=0))=true:=by
     have:¬(b.toNat:Int)=0:=by
      intro h
      have:b=0:=UInt8.toNat_inj.1 (by simpa using h)
      simp[this] at hb
     simp only[this,decide_false,Bool.not_false]
    have e:JS n (4 - j)=[b]:=by rw[hs,hb];rfl
    repeat' (first|refine zB rfl (by first|exact d0|exact d1|exact d2) ?_|refine zI rfl (by first|exact g1|exact g2|exact g3) ?_|refine zA rfl ?_|refine aA ?_|refine aJ rfl ?_)
    refine a14 rfl hr (hY [] b N hJ (by simp)) ?_ (by rintro u M' ⟨h,_⟩;cases h)
    rintro u M' ⟨h,hJ'⟩
    cases h
    repeat' (first|refine zB rfl (by first|exact d0|exact d1) ?_|refine zI rfl (by first|exact g1|exact g4) ?_|refine zA rfl ?_|refine aA ?_|refine aJ rfl ?_)
    refine⟨j,_,_,by omega,⟨by omega,(by rw[e];exact hJ'),rfl⟩,aM.le ?_ (aI.le_refl _)⟩
    rw[e]
    repeat (refine AF.le_cons rfl ?_)
    exact AF.le_nil rfl
   ·have d2:(!decide ((b.toNat:Int)=0))=false:=by
     have:b=0:=by simpa using hb
     simp[this]
    have e:JS n (4 - j)=[]:=by rw[hs,hb];rfl
    repeat' (first|refine zB rfl (by first|exact d0|exact d1|exact d2) ?_|refine zI rfl (by first|exact g1|exact g2|exact g3|exact g4) ?_|refine zA rfl ?_|refine aA ?_|refine aJ rfl ?_)
    refine⟨j,_,_,by omega,⟨by omega,(by rw[e];exact hJ),rfl⟩,aM.le ?_ (aI.le_refl _)⟩
    rw[e]
    repeat (refine AF.le_cons rfl ?_)
    exact AF.le_nil rfl
  |cons a L=>
   have e:JS n (4 - j)=a::L++[b]:=by rw[hs,if_neg (by simp)]
   repeat' (first|refine zB rfl d0 ?_|refine zI rfl (by first|exact g1|exact g2|exact g3) ?_|refine zA rfl ?_|refine aA ?_|refine aJ rfl ?_)
   refine a14 rfl hr (hY (a::L) b N hJ (by simp at hL ⊢;omega)) ?_ (by rintro u M' ⟨h,_⟩;cases h)
   rintro u M' ⟨h,hJ'⟩
   cases h
   repeat' (first|refine zB rfl (by first|exact d0|exact d1) ?_|refine zI rfl (by first|exact g1|exact g4) ?_|refine zA rfl ?_|refine aA ?_|refine aJ rfl ?_)
   refine⟨j,_,_,by omega,⟨by omega,(by rw[e];exact hJ'),rfl⟩,aM.le ?_ (aI.le_refl _)⟩
   rw[e]
   repeat (refine AF.le_cons rfl ?_)
   exact AF.le_nil rfl
theorem a3h (n:Nat) (hn:n < 4294967296):a4e Tryz.prog 120 [.ref [.int .i64 (n:Int)]] (fun b:UInt8=>[.int .u8 (b.toNat:Int)]) (fun L _=>L.length < 4) (nb n):=
 fun y J M hraw hY h0=>Y3 n hn y J M hraw hY h0
def eU (n:Nat):aG:=UInt8.ofNat (nb n).length::nb n
def FF (n:Int):AV:=if 0≤n∧n≤4294967295 then .tup [.str (eU n.toNat),.int .i64 0] else .tup [.str [],.int .i64 1]
theorem LV (n:Int):aP (FF n):=by
 unfold FF
 split<;>exact aW (aZ aR aB)
def jd:Nat→Nat
 |0=>0
 |e+1=>4+e
def NM (O:cT) (e cap:Nat) (arr:List AV):aI:=⟨4+e,[(1,.cells [.osl (jd e) 0 (1+e) cap 1]),(2,l7),(3,O),(jd e,.cells arr)]⟩
def NK (O:cT) (L:aG) (N:aI):Prop:=∃cap arr,1+L.length≤cap∧arr.length=cap*1∧arr.take (1+L.length)=(0::L).map fJ∧(NM O L.length cap arr).le N
theorem SU (n:Int):aN Tryz.prog 67 [.int .i64 n] (.fn (.func 120) [] [.ref [.int .i64 n]]):=by
 intro M
 refine aC aF Tryz.func67 rfl (by decide) (by simp[Tryz.f67]) ?_
 repeat' (first|refine zA rfl ?_|refine aA ?_|refine aJ rfl ?_)
 exact⟨rfl,_,rfl,rfl,rfl⟩
def NE (e cap:Nat) (arr:List AV):aI:=⟨4+e,[(1,.cells [.osl (jd e) 0 (1+e) cap 1]),(2,l7),(jd e,.cells arr)]⟩
theorem a1p {m e:Nat} (h:(nb m).length=e):eU m=UInt8.ofNat e::nb m:=by rw[←h];rfl
theorem IL {x y:AV} {l:List AV}:bA (y::l) 0 [x]=x::l:=by cases l<;>rfl
theorem VG {arr:List AV} {e:Nat} {x y:AV} {r:List AV} (h:arr.take (1+e)=y::r):(bA arr 0 [x]).take (1+e)=x::r:=by
 cases arr with
 |nil=>simp at h
 |cons a l=>
  rw[Nat.add_comm,List.take_succ_cons] at h
  cases h
  rw[IL,Nat.add_comm,List.take_succ_cons]
theorem RO {arr:List AV} {e cap:Nat} {x:AV} (h:arr.length=cap*1) (hc:1+e≤cap):1+e≤(bA arr 0 [x]).length:=by
 cases arr with
 |nil=>simp at h;omega
 |cons a l=>
  rw[IL]
  simp at h ⊢
  omega
theorem RY (n:Int):aN Tryz.prog 27 [.int .i64 n] (FF n):=by
 refine aT (aY aB) (LV n) ?_
 refine oF aF Tryz.func27 rfl (by decide) (by simp[Tryz.f27]) ?_
 have kb:=SU n
 cases d1:decide (n < 0)
 ·cases d2:decide (4294967295 < n)
  ·have h1:=of_decide_eq_false d1
   have h2:=of_decide_eq_false d2
   unfold FF
   rw[if_pos ⟨by omega,by omega⟩]
   obtain⟨m,rfl⟩:=Int.eq_ofNat_of_zero_le (by omega:0≤n)
   repeat' (first|refine zB rfl (by first|exact d1|exact d2) ?_|refine a27 12 aF rfl ?_|refine zA rfl ?_|refine aA ?_|refine aJ rfl ?_|refine aD rfl kb ?_)
   refine W.le (g:=⟨[(4,.ptr 1 0),(14,.fn (.func 120) [] [.ref [.int .i64 (m:Int)]])],[]⟩) (N:=⟨2,[(1,.cells [.osl 0 0 1 1 1]),(0,.cells [.int .u8 0])]⟩) ?_ ?_ ?_
   ·repeat (refine AF.le_cons rfl ?_)
    exact AF.le_nil rfl
   ·exact aI.le_cons rfl (aI.le_cons rfl (aI.le_nil rfl))
   refine XO rfl (a3h m (by omega)) NK (fun _=>rfl) rfl ?_ ?_ ?_ ?_
   ·rintro O L N ⟨cap,arr,_,_,_,hN⟩
    exact hN.2 _ _ rfl
   ·intro O
    refine⟨1,[.int .u8 0],Nat.le_refl _,rfl,rfl,?_⟩
    exact aI.le_cons rfl (aI.le_cons rfl (aI.le_cons rfl (aI.le_cons rfl (aI.le_nil rfl))))
   ·rintro O O1 L x N l ⟨cap,arr,c1,c2,c3,hN⟩ hL
    rcases (by omega:L.length=0∨L.length=1∨L.length=2∨L.length=3) with h|h|h|h
    all_goals
     rw[h] at c1 c3 hN
     refine W.le ⟨rfl,fun _=>Sub.refl⟩ hN ?_
     repeat' (first|refine zA rfl ?_|refine aA ?_|refine aJ rfl ?_)
     refine⟨rfl,?_⟩
     repeat' (first|refine zA rfl ?_|refine aJ rfl ?_|refine zR rfl ?_)
     refine YR aF rfl c2 c1 (by simp) (by simp) ?_
     intro cap' arr' e1 e2 e3
     repeat' (first|refine zA rfl ?_|refine aA ?_)
     refine⟨rfl,rfl,cap',arr',by simpa [h] using e1,e2,?_,?_⟩
     ·rw[Nat.mul_one,Nat.mul_one,c3] at e3
      simp only[List.length_append,h,List.length_cons,List.length_nil]
      refine e3.trans ?_
      simp[b9,AV.cells,fJ]
     ·simp only[List.length_append,h,List.length_cons,List.length_nil]
      exact aI.le_cons rfl (aI.le_cons rfl (aI.le_cons rfl (aI.le_cons rfl (aI.le_nil rfl))))
   ·rintro O N ⟨cap,arr,c1,c2,c3,hN⟩
    have hle:=E6 m 4
    have hp:(nb m).length≤4:=hle
    rcases (by omega:(nb m).length=0∨(nb m).length=1∨(nb m).length=2∨(nb m).length=3∨(nb m).length=4) with h|h|h|h|h
    all_goals
     rw[h] at c1 c3 hN
     have hq:=a1p h
     obtain⟨a0,l0,rfl⟩:∃a l,arr=a::l:=by
      cases arr with
      |nil=>simp at c3
      |cons a l=>exact⟨a,l,rfl⟩
     refine⟨NE _ cap (a0::l0),aI.le_trans (aI.le_cons (i:=1) rfl (aI.le_cons (i:=2) rfl (aI.le_cons rfl (aI.le_nil rfl)))) hN,rfl,?_⟩
     repeat' (first|refine a5b aF rfl ?_|refine VQ aF rfl ?_|refine zA rfl ?_|refine aA ?_|refine aJ rfl ?_)
     refine a2i aF rfl rfl rfl rfl rfl rfl rfl rfl rfl rfl rfl rfl rfl (bs:=eU m) ?_ (by exact RO c2 c1) c1 ?_
     ·rw[hq]
      exact VG c3
     repeat' (first|refine zA rfl ?_|refine aA ?_|refine aJ rfl ?_)
     refine uH (N:=⟨_,[]⟩) rfl (aI.le_nil rfl) rfl ⟨_,rfl,_,rfl,aH.of_closed (aW (aZ aR aB))⟩
  ·have h2:=of_decide_eq_true d2
   unfold FF
   rw[if_neg (by omega)]
   repeat' (first|refine zB rfl (by first|exact d1|exact d2) ?_|refine zA rfl ?_|refine aA ?_|refine aJ rfl ?_)
   exact⟨_,rfl,_,rfl,aH.of_closed (aW (aZ aR aB))⟩
 ·have h1:=of_decide_eq_true d1
  unfold FF
  rw[if_neg (by omega)]
  repeat' (first|refine zB rfl d1 ?_|refine zA rfl ?_|refine aA ?_|refine aJ rfl ?_)
  exact⟨_,rfl,_,rfl,aH.of_closed (aW (aZ aR aB))⟩
end Go.Proofs.YthnhbmlefiafaaaGreatDoor
namespace Go.Ab
open Go.RowKit
section
variable {P:Program} {τ:Tab} {ops:Array Oper} {cls:Nat→fZ} {Q:AX→AF→aI→Prop} {ds:List bH} {ls:List Nat} {i:Nat} {t:List (Nat×AV)} {M:aI}
def OS (τ:Tab) (ops:Array Oper) (ds:List bH) (i:Nat) (t:List (Nat×AV)):Option (Nat×List UInt8×Int×Int):=
 match ops[i]? with
 |some o=>(match aV ops ⟨t,ds⟩ o,o.dst,o.op with
  |some true,some d,.slice ty X L H none=>(match AF.ev ⟨t,ds⟩ X,aK τ ty with
   |.str s,some ti=>(match ti.k,sB (L.map (AF.ev ⟨t,ds⟩)) 0,sB (H.map (AF.ev ⟨t,ds⟩)) s.length with
    |.str,some lo,some hi=>some (d,s,lo,hi)
    |_,_,_=>none)
   |_,_=>none)
  |_,_,_=>none)
 |none=>none
theorem i6 (hτ:TabOK P τ) {d:Nat} {s x:List UInt8} {lo hi:Int} (hs:OS τ ops ds i t=some (d,s,lo,hi)) (hx:0≤lo∧lo≤hi∧hi≤s.length∧(s.take hi.toNat).drop lo.toNat=x) (h:DW P ops cls Q ds ls ((d,.str x)::t) M):DW P ops cls Q ds (i::ls) t M:=by
 obtain⟨h0,h1,h2,rfl⟩:=hx
 unfold OS at hs
 split at hs
 ·rename_i o hi'
  split at hs
  ·rename_i d' ty X L H hw hd ho
   split at hs
   ·rename_i s' ti hX ht
    split at hs
    ·rename_i lo' hi2 hk hL hH
     cases hs
     exact q8 hτ hi' hw hd ho hX ht hk hL hH h0 h1 h2 h
    ·cases hs
   ·cases hs
  ·cases hs
 ·cases hs
def PJ (τ:Tab) (ops:Array Oper) (ds:List bH) (i:Nat) (t:List (Nat×AV)):Option (Nat×Nat×List AV×Int×Int):=
 match ops[i]? with
 |some o=>(match aV ops ⟨t,ds⟩ o,o.dst,o.op with
  |some true,some d,.slice ty X L H none=>(match AF.ev ⟨t,ds⟩ X,aK τ ty with
   |.sl sz xs tg,some ti=>(match ti.k with
    |.slice e=>(match aK τ e with
     |some ei=>(match decide (sz=ei.size),sB (L.map (AF.ev ⟨t,ds⟩)) 0,sB (H.map (AF.ev ⟨t,ds⟩)) xs.length with
      |true,some lo,some hi=>some (d,sz,xs,lo,hi)
      |_,_,_=>none)
     |none=>none)
    |_=>none)
   |_,_=>none)
  |_,_,_=>none)
 |none=>none
theorem i5 (hτ:TabOK P τ) {d sz:Nat} {xs ys:List AV} {lo hi:Int} (hs:PJ τ ops ds i t=some (d,sz,xs,lo,hi)) (hx:0≤lo∧lo≤hi∧hi≤xs.length∧(xs.take hi.toNat).drop lo.toNat=ys) (h:DW P ops cls Q ds ls ((d,.sl sz ys .none)::t) M):DW P ops cls Q ds (i::ls) t M:=by
 obtain⟨h0,h1,h2,rfl⟩:=hx
 unfold PJ at hs
 split at hs
 ·rename_i o hi'
  split at hs
  ·rename_i d' ty X L H hw hd ho
   split at hs
   ·rename_i sz' xs' tg ti hX ht
    split at hs
    ·rename_i e hk
     split at hs
     ·rename_i ei he
      split at hs
      ·rename_i lo' hi2 hsz hL hH
       cases hs
       exact sK hτ hi' hw hd ho hX ht hk he (of_decide_eq_true hsz) hL hH h0 h1 h2 h
      ·cases hs
     ·cases hs
    ·cases hs
   ·cases hs
  ·cases hs
 ·cases hs
def OO (ops:Array Oper) (ds:List bH) (i:Nat) (t:List (Nat×AV)):Option (Nat×List UInt8×List UInt8):=
 match ops[i]? with
 |some o=>(match aV ops ⟨t,ds⟩ o,o.dst,o.op with
  |some true,some d,.binOp .add _ X Y _=>(match AF.ev ⟨t,ds⟩ X,AF.ev ⟨t,ds⟩ Y with
   |.str a,.str b=>some (d,a,b)
   |_,_=>none)
  |_,_,_=>none)
 |none=>none
theorem lW {d:Nat} {a b x:List UInt8} (hs:OO ops ds i t=some (d,a,b)) (hx:a.length+b.length≤9223372036854775807∧a++b=x) (h:DW P ops cls Q ds ls ((d,.str x)::t) M):DW P ops cls Q ds (i::ls) t M:=by
 obtain⟨hl,rfl⟩:=hx
 unfold OO at hs
 split at hs
 ·rename_i o hi'
  split at hs
  ·rename_i d' xt X Y yt hw hd ho
   split at hs
   ·rename_i a' b' hX hY
    cases hs
    exact D8 hi' hw hd ho hX hY hl h
   ·cases hs
  ·cases hs
 ·cases hs
def OJ (τ:Tab) (ops:Array Oper) (ds:List bH) (i:Nat) (t:List (Nat×AV)):Option (Nat×List AV):=
 match ops[i]? with
 |some o=>(match aV ops ⟨t,ds⟩ o,o.dst,o.op with
  |some true,some d,.convert s dt X=>(match AF.ev ⟨t,ds⟩ X,aK τ s,aK τ dt with
   |.sl 1 xs _,some si,some di=>(match si.k,di.k with
    |.slice e,.str=>(match aK τ e with
     |some ei=>(match ei.k with
      |.int .u8=>some (d,xs)
      |_=>none)
     |none=>none)
    |_,_=>none)
   |_,_,_=>none)
  |_,_,_=>none)
 |none=>none
theorem PT (hτ:TabOK P τ) {d:Nat} {xs:List AV} {bs:List UInt8} (hs:OJ τ ops ds i t=some (d,xs)) (hx:xs=bs.map fJ) (h:DW P ops cls Q ds ls ((d,.str bs)::t) M):DW P ops cls Q ds (i::ls) t M:=by
 unfold OJ at hs
 split at hs
 ·rename_i o hi'
  split at hs
  ·rename_i d' s dt X hw hd ho
   split at hs
   ·rename_i xs' tg si di hX hsi hdi
    split at hs
    ·rename_i e hk1 hk2
     split at hs
     ·rename_i ei he
      split at hs
      ·rename_i hk3
       cases hs
       exact a6o hτ hi' hw hd ho hsi hk1 he hk3 hdi hk2 hX hx h
      ·cases hs
     ·cases hs
    ·cases hs
   ·cases hs
  ·cases hs
 ·cases hs
end
end Go.Ab
