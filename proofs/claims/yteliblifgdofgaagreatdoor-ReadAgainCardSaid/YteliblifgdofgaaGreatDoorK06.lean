/- Parts of the proof, one behind the other. No further condition. -/
import Derived.Test.YteliblifgdofgaaGreatDoorK04
import Derived.Test.YteliblifgdofgaaGreatDoorK05
import Derived.Laws.StructEq
set_option linter.unusedVariables false
set_option linter.unusedSimpArgs false
set_option maxRecDepth 100000
set_option maxHeartbeats 8000000
namespace Go.Ab
open Go.RowKit
def VX (ops:Array Oper) (i:Nat) (listed:Array Bool):Array Bool:=
 (List.range ops.size).foldl (fun R j=>if j≠i∧((ops[j]?).map fun o=>o.after.all fun e=>!Region.binds .any e||R.getD e.on false).getD false=true then R.setIfInBounds j true else R) listed
def a1h (ops:Array Oper) (i:Nat) (R:Array Bool):Bool:=
 (List.range ops.size).all fun j=>j==i||R.getD j false||!((ops[j]?).map fun o=>o.after.all fun e=>!Region.binds .any e||R.getD e.on false).getD false
def a81 (n:Nat) (listed R:Array Bool):Bool:=listed.size==n&&(List.range n).all fun j=>!listed.getD j false||R.getD j false
def FY (ops:Array Oper) (cls:Nat→fQ) (i:Nat) (listed:Array Bool):Bool:=
 match ops[i]? with
 |none=>false
 |some oi=>
  let R:=VX ops i listed
  a1h ops i R&&a81 ops.size listed R&&(List.range ops.size).all fun j=>j==i||listed.getD j true||!R.getD j false||(match ops[j]? with|some oj=>oi.apart ops oj&&MQ (cls i) (cls j)|none=>true)
def dOK (ops:Array Oper) (cls:Nat→fQ):List Nat→Array Bool→Bool
 |[],listed=>(Region.ready .any ops listed).isEmpty
 |i::l,listed=>(Region.ready .any ops listed).contains i&&FY ops cls i listed&&dOK ops cls l (listed.setIfInBounds i true)
def LH (P:Program) (ops:Array Oper) (cls:Nat→fQ) (Q:AX→AF→aG→Prop) (ds:List bJ):List Nat→List (Nat×AV)→aG→Prop
 |[],t,M=>Q .normal ⟨t,ds⟩ M
 |i::l,t,M=>
  match ops[i]? with
  |none=>False
  |some o=>
   match aT ops ⟨t,ds⟩ o with
   |some true=>SC P o (cls i) (AF.ev ⟨t,ds⟩) M (fun x M'=>LH P ops cls Q ds l (AF.put ⟨t,ds⟩ o.dst x).t M') fun v M'=>Q (.panic v) ⟨dD ds,ds⟩ M'
   |some false=>LH P ops cls Q ds l (AF.put ⟨t,ds⟩ o.dst (.tup [])).t M
   |none=>False
structure DW (P:Program) (ops:Array Oper) (cls:Nat→fQ) (Q:AX→AF→aG→Prop) (ds:List bJ) (l:List Nat) (t:List (Nat×AV)) (M:aG):Prop where
 run:LH P ops cls Q ds l t M
section
variable {P:Program} {ops:Array Oper} {cls:Nat→fQ} {Q:AX→AF→aG→Prop} {ds:List bJ}
def l7 (t:List (Nat×AV)):Fr:=fun i=>(aJ t i).getD .top
theorem sQ (t:List (Nat×AV)) (dst:Option Tmp) (x:AV):l7 (AF.put ⟨t,ds⟩ dst x).t=iS (l7 t) dst x:=by
 cases dst with
 |none=>rfl
 |some d=>
  funext i
  simp only[l7,AF.put,aJ,iS]
  by_cases h:i=d<;>simp[h]
theorem HO (t:List (Nat×AV)) (x:Operand):K9 (l7 t) x=AF.ev ⟨t,ds⟩ x:=by
 cases x<;>rfl
theorem AJ (t:List (Nat×AV)) (o:Oper):xB ops (l7 t) o=aT ops ⟨t,ds⟩ o:=rfl
theorem sD:∀(ord:List Nat) (listed:Array Bool) (t:List (Nat×AV)) (M:aG),dOK ops cls ord listed=true→LH P ops cls Q ds ord t M→
  sY P ops cls (fun v M'=>Q (.panic v) ⟨dD ds,ds⟩ M') (fun φ M=>∃t,l7 t=φ∧Q .normal ⟨t,ds⟩ M) ord.length listed (l7 t) M
 |[],listed,t,M,hk,h=>⟨by simpa [dOK] using hk,t,rfl,h⟩
 |i::l,listed,t,M,hk,h=>by
  simp only[dOK,Bool.and_eq_true,List.contains_iff_mem] at hk
  obtain⟨⟨h1,h2⟩,h3⟩:=hk
  unfold FY at h2
  split at h2
  case h_1=>cases h2
  rename_i oi hoi
  simp only[Bool.and_eq_true] at h2
  obtain⟨⟨h4,h5⟩,h6⟩:=h2
  have hall:=List.all_eq_true.1 h6
  unfold a81 at h5
  simp only[Bool.and_eq_true,beq_iff_eq] at h5
  obtain⟨hsz,h5⟩:=h5
  refine CV hoi (R:=fun j=>(VX ops i listed).getD j false) ?_ l.length listed (l7 t) M ?_ h1 ?_ ?_
  ·intro j oj hji hoj hpre
   have hj:j < ops.size:=(Array.getElem?_eq_some_iff.1 hoj).1
   have:=(List.all_eq_true.1 h4) j (List.mem_range.2 hj)
   simp only[Bool.or_eq_true,beq_iff_eq,Bool.not_eq_true'] at this
   rcases this with (hh|hh)|hh
   ·exact absurd hh hji
   ·exact hh
   ·exfalso
    rw[hoj] at hh
    simp only[Option.map_some,Option.getD_some] at hh
    have ht:(oj.after.all fun e=>!Region.binds .any e||(VX ops i listed).getD e.on false)=true:=by
     rw[Array.all_eq_true_iff_forall_mem]
     intro e he
     cases hb:Region.binds .any e with
     |false=>rfl
     |true=>simpa using hpre e he hb
    rw[ht] at hh
    cases hh
  ·intro j hj
   have hlt:j < ops.size:=by
    rcases Nat.lt_or_ge j ops.size with h|h
    ·exact h
    ·rw[Array.getD_eq_getD_getElem?,Array.getElem?_eq_none (by omega)] at hj
     cases hj
   have:=(List.all_eq_true.1 h5) j (List.mem_range.2 hlt)
   simp only[hj,Bool.not_true,Bool.false_or] at this
   exact this
  ·intro j oj hoj hji hR hun
   have hj:j < ops.size:=(Array.getElem?_eq_some_iff.1 hoj).1
   have:=hall j (List.mem_range.2 hj)
   simp only[hR,hun,hoj,Bool.not_true,Bool.or_false,Bool.or_eq_true,beq_iff_eq,Bool.and_eq_true] at this
   rcases this with hh|hh
   ·first|exact absurd hh hji|(rcases hh with hh|hh<;>first|exact absurd hh hji|cases hh)
   ·exact hh
  ·unfold LH at h
   unfold P0
   simp only[hoi] at h ⊢
   rw[AJ (ds:=ds)]
   split at h
   ·rename_i hw
    rw[hw]
    refine SC.mono (SC.congr h fun y _=>HO t y) fun u N _ hu=>?_
    have:=sD l _ _ N h3 hu
    rw[sQ] at this
    exact this
   ·rename_i hw
    rw[hw]
    have:=sD l _ _ M h3 h
    rw[sQ] at this
    exact this
   ·exact h.elim
theorem aW {r:Option Nat} {n id:Nat} {t:List (Nat×AV)} {M:aG} (hm:P.follows .mixedOrders=true) (ord:List Nat) (cl:List fQ) (hd0:(ops.toList.all fun o=>jB ds o n)=true) (hl:ord.length=ops.size)
  (hk:dOK ops (fun i=>cl.getD i .E) ord (Array.replicate ops.size false)=true) (h:DW P ops (fun i=>cl.getD i .E) Q ds ord t M):W r P n (.region id ops true) Q ⟨t,ds⟩ M:=by
 have hd:(ops.all fun o=>jB ds o n)=true:=by rw[←Array.all_toList];exact hd0
 refine⟨fun μ F w a hg hr=>?_⟩
 refine wpIn_region_any hm ?_
 have hb:Below w.heap.size w {w with drawn:=w.drawn+1}:=⟨rfl,rfl,rfl,Nat.le_refl _,fun _ _=>rfl⟩
 have hev:=dQ.of_below μ hb
 have hany:=sD ord _ t M hk h.run
 rw[hl] at hany
 have hrf:s6 μ F w n (l7 t) ds a:=⟨hr.size,hr.tmps,hr.defs,hr.kept⟩
 refine C0 (r:=r) (ds:=ds) hd (F:=F) ops.size _ (l7 t) M μ {w with drawn:=w.drawn+1} a (hg.below hb) (hrf.evo hev) ?_ ?_ hany
 ·rintro μ' φ' M' w' a' e1 e2 e3 ⟨t',rfl,hq⟩
  exact⟨μ',⟨t',ds⟩,M',.normal,hev.trans e1,e2,⟨e3.size,e3.tmps,e3.defs,e3.kept⟩,trivial,hq⟩
 ·intro μ' φ' M' w' a' v u e1 e2 e3 e4 hq
  exact⟨μ',⟨dD ds,ds⟩,M',.panic u,hev.trans e1,e2,⟨e3.size,rN e3.kept,e3.defs,e3.kept⟩,⟨v,rfl,e4⟩,hq⟩
end
end Go.Ab
namespace Go.Ab
open Go.RowKit
theorem SC.of_P {P:Program} {o:Oper} {c:fQ} {ρ:Operand→AV} {M:aG} {K Kp:AV→aG→Prop} {x:AV} (h:jF P o.op o.type ρ x) (hk:K x M):SC P o c ρ M K Kp:=by
 cases c with
 |P=>exact⟨x,fun N=>jD.of_E (wR.toE (M:=N) h.toR) ⟨rfl,rfl⟩,hk⟩
 |R=>exact⟨x,jD.of_E (wR.toE (M:=M) h.toR) ⟨rfl,rfl⟩,hk⟩
 |E=>exact jD.of_E (wR.toE (M:=M) h.toR) hk
 |Y=>exact G5.of_E (wR.toE (M:=M) h.toR) hk
def pG:fQ→Bool
 |.P=>false
 |_=>true
def n7:fQ→Bool
 |.E=>true
 |.Y=>true
 |_=>false
theorem SC.of_R {P:Program} {o:Oper} {c:fQ} (hc:pG c=true) {ρ:Operand→AV} {M:aG} {K Kp:AV→aG→Prop} {x:AV} (h:wR P o.op o.type ρ M x) (hk:K x M):SC P o c ρ M K Kp:=by
 cases c with
 |P=>cases hc
 |R=>exact⟨x,jD.of_E h.toE ⟨rfl,rfl⟩,hk⟩
 |E=>exact jD.of_E h.toE hk
 |Y=>exact G5.of_E h.toE hk
theorem SC.of_E {P:Program} {o:Oper} {c:fQ} (hc:n7 c=true) {ρ:Operand→AV} {M M':aG} {K Kp:AV→aG→Prop} {x:AV} (h:F9 P o.op o.type ρ M x M') (hk:K x M'):SC P o c ρ M K Kp:=by
 cases c with
 |E=>exact jD.of_E h hk
 |Y=>exact G5.of_E h hk
 |_=>cases hc
theorem nY {P:Program} {o:Oper} {x:Operand} {ags:Array Operand} {ts:Array TypeId} (ho:o.op=.call {callee:=.value x,args:=ags,argTypes:=ts}) {ρ:Operand→AV} {M:aG} {g:FuncId} {fi ca:List AV}
  (hx:ρ x=.fn (.func g) fi ca) {R:cH→aG→Prop} (hc:aQ P g (fi++ags.toList.map ρ++ca) M R) {K Kp:AV→aG→Prop} (h1:∀u M',R (.ret u) M'→K u M') (h2:∀u M',R (.pan u) M'→Kp u M'):jD P o ρ M K Kp:=by
 intro μ F w a hg hr next Q' g1 g2
 have hv:=hr x (by simp[ho,Op.operands,Call.operands])
 rw[hx] at hv
 obtain⟨c1,c2,he,hs1,hs2,f1,f2⟩:=hv.fn_inv
 have hargs:cN μ F w (ags.toList.map ρ) (ags.map a.eval):=cN.map fun y hy=>hr y (by simp[ho,Op.operands,Call.operands,hy])
 have hall:cN μ F w (fi++ags.toList.map ρ++ca) (c1++ags.map a.eval++c2):=(cN.app ⟨hs1,f1⟩ hargs).app ⟨hs2,f2⟩
 have hcall:=hc.2 μ F w _ hg hall
 have hrun:(execOp a.eval o).run P w=.ok (.enter g (c1++ags.map a.eval++c2)) w:=by
  simp[execOp,ho,resolve,he,Deferred.ofValue,invoke,jV hc.1]
 unfold Oper.wp
 rw[hrun]
 simp only[Oper.upon]
 refine hcall.mono ?_
 rintro e w' ⟨μ',M',e1,e2,e3⟩
 cases e with
 |returned v=>
  obtain⟨u,e4,e5⟩:=e3
  exact g1 μ' M' w' v u e1 e2 e4 (h1 u M' e5)
 |panicked ch=>
  obtain⟨u,v,rfl,e4,e5⟩:=e3
  exact g2 μ' M' w' v u e1 e2 e4 (h2 u M' e5)
 |outgrown=>exact e3.elim
theorem SC.of_G {P:Program} {o:Oper} {c:fQ} {ρ:Operand→AV} {M:aG} {K Kp:AV→aG→Prop} (hc:n7 c=true) (hnd:∀c,o.op≠.defer c) (h:jD P o ρ M K Kp):SC P o c ρ M K Kp:=by
 cases c with
 |E=>exact h
 |Y=>exact jD.toI hnd h
 |_=>cases hc
section
variable {P:Program} {τ:Tab} {ops:Array Oper} {cls:Nat→fQ} {Q:AX→AF→aG→Prop} {ds:List bJ} {l:List Nat} {i:Nat} {o:Oper} {t:List (Nat×AV)} {M M':aG} {x:AV}
theorem aA (h:Q .normal ⟨t,ds⟩ M):DW P ops cls Q ds [] t M:=⟨h⟩
theorem eN (hi:ops[i]? =some o) (hw:aT ops ⟨t,ds⟩ o=some true) (h:SC P o (cls i) (AF.ev ⟨t,ds⟩) M (fun x M'=>DW P ops cls Q ds l (AF.put ⟨t,ds⟩ o.dst x).t M') fun v M'=>Q (.panic v) ⟨dD ds,ds⟩ M'):
  DW P ops cls Q ds (i::l) t M:=by
 refine⟨?_⟩
 unfold LH
 simp only[hi,hw]
 exact SC.mono h fun u N _ hu=>hu.run
theorem fR {d:Nat} (hi:ops[i]? =some o) (hw:aT ops ⟨t,ds⟩ o=some true) (hd:o.dst=some d) (ho:jF P o.op o.type (AF.ev ⟨t,ds⟩) x) (h:DW P ops cls Q ds l ((d,x)::t) M):DW P ops cls Q ds (i::l) t M:=
 eN hi hw (SC.of_P ho (by simpa [AF.put,hd] using h))
theorem jY {d:Nat} (hi:ops[i]? =some o) (hw:aT ops ⟨t,ds⟩ o=some true) (hd:o.dst=some d) (hc:pG (cls i)=true) (ho:wR P o.op o.type (AF.ev ⟨t,ds⟩) M x) (h:DW P ops cls Q ds l ((d,x)::t) M):DW P ops cls Q ds (i::l) t M:=
 eN hi hw (SC.of_R hc ho (by simpa [AF.put,hd] using h))
theorem lE {d:Nat} (hi:ops[i]? =some o) (hw:aT ops ⟨t,ds⟩ o=some true) (hd:o.dst=some d) (hc:n7 (cls i)=true) (ho:F9 P o.op o.type (AF.ev ⟨t,ds⟩) M x M') (h:DW P ops cls Q ds l ((d,x)::t) M'):DW P ops cls Q ds (i::l) t M:=
 eN hi hw (SC.of_E hc ho (by simpa [AF.put,hd] using h))
theorem EM (hi:ops[i]? =some o) (hw:aT ops ⟨t,ds⟩ o=some true) (hd:o.dst=none) (hc:n7 (cls i)=true) (ho:F9 P o.op o.type (AF.ev ⟨t,ds⟩) M x M') (h:DW P ops cls Q ds l t M'):DW P ops cls Q ds (i::l) t M:=
 eN hi hw (SC.of_E hc ho (by simpa [AF.put,hd] using h))
def uQ (x:Option AV):Option AV:=match x with|some y=>y.force|none=>none
theorem nS {y:Option AV} (h:uQ y=some x):y=some x:=by
 cases y with
 |none=>cases h
 |some z=>exact congrArg some (AV.force_spec h)
def aG.forceN:aG→Option aG
 |⟨n,(i,.cells (c::r))::l⟩=>(match c.force with|some c'=>some ⟨n,(i,.cells (c'::r))::l⟩|none=>none)
 |⟨n,l⟩=>some ⟨n,l⟩
theorem aG.forceN_spec {x y:aG} (h:x.forceN=some y):x=y:=by
 unfold aG.forceN at h
 split at h
 ·split at h
  ·rename_i hc
   cases h
   rw[AV.force_spec hc]
  ·cases h
 ·cases h;rfl
def yS (x:Option (AV×aG)):Option (AV×aG):=match x with|some (y,N)=>(match y.force,N.forceN with|some z,some N'=>some (z,N')|_,_=>none)|none=>none
theorem wB {y:Option (AV×aG)} (h:yS y=some (x,M')):y=some (x,M'):=by
 unfold yS at h
 split at h
 case h_2=>cases h
 split at h
 case h_2=>cases h
 rename_i h1 h2
 cases h
 rw[AV.force_spec h1,aG.forceN_spec h2]
def AD (τ:Tab) (ρ:Operand→AV) (op:Op):Option AV:=
 match op with
 |.build t ps=>LN τ t (ps.toList.map fun p=>(p.1,ρ p.2))
 |.indexAddr t x ix=>a63 τ t (ρ x) (ρ ix)
 |.nilCheck x=>(match ρ x with|.ref c=>some (.ref c)|.fn (.func g) a b=>some (.fn (.func g) a b)|_=>none)
 |op=>ZH τ ρ op
theorem ZZ {P:Program} {x:Operand} {ty:TypeId} {ρ:Operand→AV} {r:AV} (h:(match ρ x with|.ref c=>some (AV.ref c)|.fn (.func g) a b=>some (.fn (.func g) a b)|_=>none)=some r):jF P (.nilCheck x) ty ρ r:=by
 refine b7 ?_
 intro μ F w ρc o ho ht hr
 have hx:=hr x (by simp[Op.operands])
 split at h
 ·rename_i cells e
  cases h
  have hx':=hx
  rw[e] at hx hx'
  obtain⟨b,off,hv⟩:=iE hx
  rw[hv] at hx'
  exact⟨_,by simp[execOp,ho,hv],hx'⟩
 ·rename_i g l1 l2 e
  cases h
  have hx':=hx
  rw[e] at hx hx'
  obtain⟨c1,c2,hv,_⟩:=hx.fn_inv
  rw[hv] at hx'
  exact⟨_,by simp[execOp,ho,hv],hx'⟩
 ·cases h
theorem m9 (hτ:TabOK P τ) {ρ:Operand→AV} {op:Op} {ty:TypeId} (h:AD τ ρ op=some x):jF P op ty ρ x:=by
 unfold AD at h
 split at h
 ·exact SA hτ h
 ·exact a2y hτ h
 ·exact ZZ h
 ·exact JX hτ h
def L0 (τ:Tab) (ρ:Operand→AV) (M:aG) (op:Op):Option AV:=
 match op with
 |.indexAddr t x ix=>XU M τ t (ρ x) (ρ ix)
 |op=>Z6 τ ρ M op
theorem EN (hτ:TabOK P τ) {ρ:Operand→AV} {op:Op} {ty:TypeId} (h:L0 τ ρ M op=some x):wR P op ty ρ M x:=by
 unfold L0 at h
 split at h
 ·exact a1e hτ h
 ·exact I6 hτ h
theorem aBe (hτ:TabOK P τ) {d:Nat} (hi:ops[i]? =some o) (hw:aT ops ⟨t,ds⟩ o=some true) (hd:o.dst=some d) (ho:yS (H5 τ (AF.ev ⟨t,ds⟩) M o.op)=some (x,M')) (hc:n7 (cls i)=true) (h:DW P ops cls Q ds l ((d,x)::t) M'):DW P ops cls Q ds (i::l) t M:=
 lE hi hw hd hc (w8 hτ (wB ho)) h
theorem FO {d:Nat} (hi:ops[i]? =some o) (hw:aT ops ⟨t,ds⟩ o=some true) (hd:o.dst=some d) {y:Operand} {ags:Array Operand} {ts:Array TypeId} (ho:o.op=.call {callee:=.value y,args:=ags,argTypes:=ts})
  {g:FuncId} {fi ca:List AV} (hx:AF.ev ⟨t,ds⟩ y=.fn (.func g) fi ca) (hc:n7 (cls i)=true) {R:cH→aG→Prop} (hcall:aQ P g (fi++ags.toList.map (AF.ev ⟨t,ds⟩)++ca) M R)
  (h1:∀u M',R (.ret u) M'→DW P ops cls Q ds l ((d,u)::t) M') (h2:∀u M',R (.pan u) M'→Q (.panic u) ⟨dD ds,ds⟩ M'):DW P ops cls Q ds (i::l) t M:=by
 refine eN hi hw ?_
 have:SC P o .E (AF.ev ⟨t,ds⟩) M (fun x M'=>DW P ops cls Q ds l (AF.put ⟨t,ds⟩ o.dst x).t M') fun v M'=>Q (.panic v) ⟨dD ds,ds⟩ M':=
  nY ho hx hcall (fun u M' hu=>by simpa [AF.put,hd] using h1 u M' hu) h2
 generalize cls i=c at hc ⊢
 cases c with
 |E=>exact this
 |Y=>exact jD.toI (by intro c hc;rw[ho] at hc;cases hc) this
 |_=>cases hc
theorem U6 (hi:ops[i]? =some o) (hw:aT ops ⟨t,ds⟩ o=some true) (hd:o.dst=none) {y:Operand} {ags:Array Operand} {ts:Array TypeId} (ho:o.op=.call {callee:=.value y,args:=ags,argTypes:=ts})
  {g:FuncId} {fi ca:List AV} (hx:AF.ev ⟨t,ds⟩ y=.fn (.func g) fi ca) (hc:n7 (cls i)=true) {R:cH→aG→Prop} (hcall:aQ P g (fi++ags.toList.map (AF.ev ⟨t,ds⟩)++ca) M R)
  (h1:∀u M',R (.ret u) M'→DW P ops cls Q ds l t M') (h2:∀u M',R (.pan u) M'→Q (.panic u) ⟨dD ds,ds⟩ M'):DW P ops cls Q ds (i::l) t M:=by
 refine eN hi hw ?_
 have:SC P o .E (AF.ev ⟨t,ds⟩) M (fun x M'=>DW P ops cls Q ds l (AF.put ⟨t,ds⟩ o.dst x).t M') fun v M'=>Q (.panic v) ⟨dD ds,ds⟩ M':=
  nY ho hx hcall (fun u M' hu=>by simpa [AF.put,hd] using h1 u M' hu) h2
 generalize cls i=c at hc ⊢
 cases c with
 |E=>exact this
 |Y=>exact jD.toI (by intro c hc;rw[ho] at hc;cases hc) this
 |_=>cases hc
theorem fG {d:Nat} (hi:ops[i]? =some o) (hw:aT ops ⟨t,ds⟩ o=some true) (hd:o.dst=some d) {y:Operand} {ags:Array Operand} {ts:Array TypeId} (ho:o.op=.call {callee:=.value y,args:=ags,argTypes:=ts})
  {g:FuncId} {fi ca:List AV} (hx:AF.ev ⟨t,ds⟩ y=.fn (.func g) fi ca) (hcall:aO P g (fi++ags.toList.map (AF.ev ⟨t,ds⟩)++ca) x)
  (h:DW P ops cls Q ds l ((d,x)::t) M):DW P ops cls Q ds (i::l) t M:=by
 refine eN hi hw ?_
 have key:∀N,jD P o (AF.ev ⟨t,ds⟩) N (fun u M'=>u=x∧M'=N) fun _ _=>False:=fun N=>
  nY ho hx (hcall N) (fun u M' hu=>by obtain⟨e1,e2⟩:=hu;cases e1;exact⟨rfl,e2⟩) (fun u M' hu=>by cases hu.1)
 have hk:DW P ops cls Q ds l (AF.put ⟨t,ds⟩ o.dst x).t M:=by simpa [AF.put,hd] using h
 generalize cls i=c
 cases c with
 |P=>exact⟨x,key,hk⟩
 |R=>exact⟨x,key M,hk⟩
 |E=>
  refine (nY ho hx (hcall M) (fun u M' hu=>?_) (fun u M' hu=>by cases hu.1):jD P o _ M _ _)
  obtain⟨e1,e2⟩:=hu
  cases e1
  subst e2
  exact hk
 |Y=>
  refine jD.toI (by intro c hc;rw[ho] at hc;cases hc) ?_
  refine nY ho hx (hcall M) ?_ (fun u M' ⟨e,_⟩=>by cases e)
  intro u M' ⟨e,e'⟩
  cases e
  subst e'
  exact hk
theorem dR (hi:ops[i]? =some o) (hw:aT ops ⟨t,ds⟩ o=some true) {y:Operand} (ho:o.op=.panic y) {ty:TypeId} {z:AV} (hx:AF.ev ⟨t,ds⟩ y=.iface ty z) (hc:n7 (cls i)=true) (h:Q (.panic (.iface ty z)) ⟨dD ds,ds⟩ M):DW P ops cls Q ds (i::l) t M:=by
 refine eN hi hw ?_
 have:jD P o (AF.ev ⟨t,ds⟩) M (fun x M'=>DW P ops cls Q ds l (AF.put ⟨t,ds⟩ o.dst x).t M') fun v M'=>Q (.panic v) ⟨dD ds,ds⟩ M':=by
  intro μ F w a hg hr next Q' g1 g2
  have hv:=hr y (by simp[ho,Op.operands])
  rw[hx] at hv
  generalize hu:a.eval y=u at hv
  have hv0:=hv
  cases hv with
  |iface _ _ v hy=>
   unfold Oper.wp
   have hrun:(execOp a.eval o).run P w=.halt (.panic (.iface ty v)) w:=by simp[execOp,ho,hu,Instr.panic]
   rw[hrun]
   exact g2 μ M w _ _ (dQ.refl _ _) hg hv0 h
 generalize cls i=c at hc ⊢
 cases c with
 |E=>exact this
 |Y=>exact jD.toI (by intro c hc;rw[ho] at hc;cases hc) this
 |_=>cases hc
theorem dG (hτ:TabOK P τ) {d:Nat} (hi:ops[i]? =some o) (hw:aT ops ⟨t,ds⟩ o=some true) (hd:o.dst=some d) {ty e:TypeId} {X I:Operand} (ho:o.op=.indexAddr ty X I) {sz:Nat} {xs:List AV} {tag:eE}
  (hX:AF.ev ⟨t,ds⟩ X=.sl sz xs tag) {k:IntKind} {n:Int} (hI:AF.ev ⟨t,ds⟩ I=.int k n) {ti ei:TI} (ht:aJ τ ty=some ti) (hk:ti.k=.slice e) (he:aJ τ e=some ei) (hsz:sz=ei.size) (h0:0≤n) (hel:xs[n.toNat]? =some x)
  (h:DW P ops cls Q ds l ((d,.ref x.cells)::t) M):DW P ops cls Q ds (i::l) t M:=
 fR hi hw hd (by rw[ho];exact SW hτ ht hk he hX hI h0 hel hsz) h
theorem a0p (hτ:TabOK P τ) {d:Nat} (hi:ops[i]? =some o) (hw:aT ops ⟨t,ds⟩ o=some true) (hd:o.dst=some d) {ty:TypeId} {X I:Operand} (ho:o.op=.index ty X I) {s:List UInt8} (hX:AF.ev ⟨t,ds⟩ X=.str s)
  {k:IntKind} {n:Int} (hI:AF.ev ⟨t,ds⟩ I=.int k n) {ti:TI} (ht:aJ τ ty=some ti) (hk:ti.k=.str) (h0:0≤n) {c:UInt8} (hel:s[n.toNat]? =some c) (h:DW P ops cls Q ds l ((d,.int .u8 c.toNat)::t) M):DW P ops cls Q ds (i::l) t M:=
 fR hi hw hd (by rw[ho];exact YT hτ ht hk hX hI h0 hel) h
theorem a5x (hτ:TabOK P τ) {d:Nat} (hi:ops[i]? =some o) (hw:aT ops ⟨t,ds⟩ o=some true) (hd:o.dst=some d) {ty e:TypeId} {n:Nat} {ps:Array (Nat×Operand)} (ho:o.op=.buildSlice ty n ps) {ti ei:TI} (ht:aJ τ ty=some ti) (hk:ti.k=.slice e)
  (he:aJ τ e=some ei) (hpos:decide (0 < ei.size)=true) (hn:ps.size=n) (hidx:jZ ps.toList 0=true) (hsz:i9 ei.size (ps.toList.map fun p=>AF.ev ⟨t,ds⟩ p.2)=true) (hbig:decide (n*ei.size≤16777216)=true)
  (h:DW P ops cls Q ds l ((d,.sl ei.size (ps.toList.map fun p=>AF.ev ⟨t,ds⟩ p.2) .full)::t) M):DW P ops cls Q ds (i::l) t M:=
 fR hi hw hd (by rw[ho];exact yG hτ ht hk he (of_decide_eq_true hpos) hn hidx hsz (of_decide_eq_true hbig)) h
theorem DT (hτ:TabOK P τ) {d:Nat} (hi:ops[i]? =some o) (hw:aT ops ⟨t,ds⟩ o=some true) (hd:o.dst=some d) {ty:TypeId} {X:Operand} {L H:Option Operand} (ho:o.op=.slice ty X L H none) {s:List UInt8} {lo hi':Int} (hX:AF.ev ⟨t,ds⟩ X=.str s)
  {ti:TI} (ht:aJ τ ty=some ti) (hk:ti.k=.str) (hL:rK (L.map (AF.ev ⟨t,ds⟩)) 0=some lo) (hH:rK (H.map (AF.ev ⟨t,ds⟩)) s.length=some hi') (h0:0≤lo) (h1:lo≤hi') (h2:hi'≤s.length)
  (h:DW P ops cls Q ds l ((d,.str ((s.take hi'.toNat).drop lo.toNat))::t) M):DW P ops cls Q ds (i::l) t M:=
 fR hi hw hd (by rw[ho];exact MA hτ ht hk hX hL hH h0 h1 h2) h
theorem sF (hτ:TabOK P τ) {d:Nat} (hi:ops[i]? =some o) (hw:aT ops ⟨t,ds⟩ o=some true) (hd:o.dst=some d) {ty e:TypeId} {X:Operand} {L H:Option Operand} (ho:o.op=.slice ty X L H none) {sz:Nat} {xs:List AV} {tg:eE} {lo hi':Int}
  (hX:AF.ev ⟨t,ds⟩ X=.sl sz xs tg) {ti ei:TI} (ht:aJ τ ty=some ti) (hk:ti.k=.slice e) (he:aJ τ e=some ei) (hsz:sz=ei.size) (hL:rK (L.map (AF.ev ⟨t,ds⟩)) 0=some lo) (hH:rK (H.map (AF.ev ⟨t,ds⟩)) xs.length=some hi')
  (h0:0≤lo) (h1:lo≤hi') (h2:hi'≤xs.length) (h:DW P ops cls Q ds l ((d,.sl sz ((xs.take hi'.toNat).drop lo.toNat) .none)::t) M):DW P ops cls Q ds (i::l) t M:=
 fR hi hw hd (by rw[ho];exact Q7 hτ ht hk he hX hL hH h0 h1 h2 hsz) h
theorem CU {d:Nat} (hi:ops[i]? =some o) (hw:aT ops ⟨t,ds⟩ o=some true) (hd:o.dst=some d) {xt yt:TypeId} {X Y:Operand} (ho:o.op=.binOp .add xt X Y yt) {a b:List UInt8} (hX:AF.ev ⟨t,ds⟩ X=.str a) (hY:AF.ev ⟨t,ds⟩ Y=.str b)
  (hl:a.length+b.length≤9223372036854775807) (h:DW P ops cls Q ds l ((d,.str (a++b))::t) M):DW P ops cls Q ds (i::l) t M:=
 fR hi hw hd (by rw[ho];exact MC hX hY hl) h
theorem SX (hτ:TabOK P τ) {d:Nat} (hi:ops[i]? =some o) (hw:aT ops ⟨t,ds⟩ o=some true) (hd:o.dst=some d) {ty tx e:TypeId} {s y:Operand} (ho:o.op=.call {callee:=.builtin .append,args:=#[s,y],argTypes:=#[ty,tx]})
  {sz:Nat} {xs ys:List AV} (hS:AF.ev ⟨t,ds⟩ s=.sl sz xs .full) {ti ei xi:TI} (ht:aJ τ ty=some ti) (hk:ti.k=.slice e) (he:aJ τ e=some ei) (hp:decide (0 < ei.size)=true) (hxi:aJ τ tx=some xi)
  (hf:eG xi.k (AF.ev ⟨t,ds⟩ y)=true) (hX:iI ei.size (AF.ev ⟨t,ds⟩ y)=some ys) (hc:n7 (cls i)=true) (hsz:sz=ei.size∨xs=[]) (hb:(xs.length+ys.length)*ei.bytes≤140737488355328) (hl:xs.length+ys.length≤140737488355328)
  (h:DW P ops cls Q ds l ((d,.sl ei.size (xs++ys) (.tok M.next 0))::t) (M.push (.spare 0))):DW P ops cls Q ds (i::l) t M:=
 lE hi hw hd hc (by rw[ho];exact xY hτ ⟨ht,hk,he,of_decide_eq_true hp⟩ hxi hS hsz hf hX hb hl (.inl ⟨rfl,rfl,rfl,rfl⟩)) h
theorem pX (hτ:TabOK P τ) {d:Nat} (hi:ops[i]? =some o) (hw:aT ops ⟨t,ds⟩ o=some true) (hd:o.dst=some d) {ty tx e:TypeId} {s y:Operand} (ho:o.op=.call {callee:=.builtin .append,args:=#[s,y],argTypes:=#[ty,tx]})
  {sz id g:Nat} {xs ys:List AV} (hS:AF.ev ⟨t,ds⟩ s=.sl sz xs (.tok id g)) (hM:M.get id=some (.spare g)) {ti ei xi:TI} (ht:aJ τ ty=some ti) (hk:ti.k=.slice e) (he:aJ τ e=some ei) (hp:decide (0 < ei.size)=true) (hxi:aJ τ tx=some xi)
  (hf:eG xi.k (AF.ev ⟨t,ds⟩ y)=true) (hX:iI ei.size (AF.ev ⟨t,ds⟩ y)=some ys) (hc:n7 (cls i)=true) (hsz:sz=ei.size) (hb:(xs.length+ys.length)*ei.bytes≤140737488355328) (hl:xs.length+ys.length≤140737488355328)
  (h:DW P ops cls Q ds l ((d,.sl ei.size (xs++ys) (.tok id (g+1)))::t) (M.set id (.spare (g+1)))):DW P ops cls Q ds (i::l) t M:=
 lE hi hw hd hc (by rw[ho];exact xY hτ ⟨ht,hk,he,of_decide_eq_true hp⟩ hxi hS (.inl hsz) hf hX hb hl (.inr ⟨g,hsz,rfl,hM,rfl,rfl⟩)) h
end
theorem AI {r:Option Nat} {P:Program} {n:Nat} {ops:Array Oper} {Q:AX→AF→aG→Prop} {ds:List bJ} (hd:(ops.all fun o=>jB ds o n)=true) (hQ:∀v (t:List (Nat×AV)) M,Q (.panic v) ⟨dD ds,ds⟩ M→Q (.panic v) ⟨dD ds,ds⟩ M):∀(rest:List Oper) (k:Nat) (t:List (Nat×AV)) (M:aG),(∀j,rest[j]? =ops[k+j]?)→
  LH P ops (fun _=>.Y) Q ds (List.range' k rest.length) t M→WL r P n ops Q rest ⟨t,ds⟩ M
 |[],k,t,M,_,h=>i7 h
 |o::rest,k,t,M,hl,h=>by
  have h0:ops[k]? =some o:=by simpa using (hl 0).symm
  have hl':∀j,rest[j]? =ops[k+1+j]? :=fun j=>by have:=hl (j+1);simpa [Nat.add_assoc,Nat.add_comm 1 j] using this
  have hdo:=iQ ((Array.all_eq_true_iff_forall_mem.1 hd) o (Array.mem_of_getElem? h0))
  simp only[List.length_cons,List.range'_succ] at h
  unfold LH at h
  simp only[h0] at h
  intro μ F w a hg hr Q' hQ'
  unfold wpListIn
  split at h
  ·rename_i hw
   rw[iN hr hw,if_pos rfl]
   refine h r μ F w a hg (fun y _=>hr.ev y) _ _ ?_ ?_
   ·intro μ' M' w' v u e1 e2 e3 e4
    have hput:AF.put ⟨t,ds⟩ o.dst u=⟨(AF.put ⟨t,ds⟩ o.dst u).t,ds⟩:=by cases o.dst<;>rfl
    have hrf:=(hr.evo e1).put hdo e3
    rw[hput] at hrf
    exact AI hd hQ rest (k+1) _ M' hl' e4 μ' F w' _ e2 hrf Q' fun e a' w'' hp=>hQ' _ _ _ (hp.trans e1)
   ·intro μ' M' w' v u e1 e2 e3 e4
    exact hQ' _ _ _ ⟨μ',⟨dD ds,ds⟩,M',.panic u,e1,e2,⟨(hr.evo e1).size,rN (hr.evo e1).kept,(hr.evo e1).defs,(hr.evo e1).kept⟩,⟨v,rfl,e3⟩,e4⟩
  ·rename_i hw
   rw[iN hr hw,if_neg (by simp)]
   have hput:AF.put ⟨t,ds⟩ o.dst (.tup [])=⟨(AF.put ⟨t,ds⟩ o.dst (.tup [])).t,ds⟩:=by cases o.dst<;>rfl
   have hrf:=hr.put (v:=undef) hdo uW
   rw[hput] at hrf
   exact⟨fun _ _=>trivial,AI hd hQ rest (k+1) _ M hl' h μ F w _ hg hrf Q' hQ'⟩
  ·exact h.elim
theorem a6e {r:Option Nat} {P:Program} {n id:Nat} {ops:Array Oper} {Q:AX→AF→aG→Prop} {ds:List bJ} {t:List (Nat×AV)} {M:aG} (hd:(ops.toList.all fun o=>jB ds o n)=true) (hQ:∀v (t:List (Nat×AV)) M,Q (.panic v) ⟨dD ds,ds⟩ M→Q (.panic v) ⟨dD ds,ds⟩ M)
  (h:DW P ops (fun _=>.Y) Q ds (List.range' 0 ops.toList.length) t M):W r P n (.region id ops false) Q ⟨t,ds⟩ M:=
 eB (AI (by rw[←Array.all_toList];exact hd) hQ ops.toList 0 t M (fun j=>by simp) h.run)
end Go.Ab
namespace Go.Ab
open Go.RowKit
def KY (op:BinOp) (k:IntKind) (a b:Int):Option Int:=
 match op with
 |.and=>some (k.wrap ((BitVec.ofInt k.bits a&&& BitVec.ofInt k.bits b).toNat))
 |.or=>some (k.wrap ((BitVec.ofInt k.bits a|||BitVec.ofInt k.bits b).toNat))
 |.xor=>some (k.wrap ((BitVec.ofInt k.bits a^^^BitVec.ofInt k.bits b).toNat))
 |.andNot=>some (k.wrap ((BitVec.ofInt k.bits a&&& ~~~BitVec.ofInt k.bits b).toNat))
 |.quo=>if b=0 then none else some (k.wrap (a.tdiv b))
 |.rem=>if b=0 then none else some (a.tmod b)
 |_=>none
def XH (op:BinOp) (x y:AV):Option AV:=
 match op,x,y with
 |.shl,.int k a,.int _ b=>if 0≤b then some (.int k (k.wrap (a*2^(min b.toNat k.bits)))) else none
 |.shr,.int k a,.int _ b=>if 0≤b then some (.int k (a.fdiv (2^(min b.toNat k.bits)))) else none
 |op,.int k a,.int k' b=>if k=k' then (match KY op k a b with|some r=>some (.int k r)|none=>none) else none
 |_,_,_=>none
theorem a09 {P:Program} {xt yt:TypeId} {x y:Operand} {ty:TypeId} {ρ:Operand→AV} {k k':IntKind} {a b:Int} (hx:ρ x=.int k a) (hy:ρ y=.int k' b) (hb:0≤b):
  jF P (.binOp .shl xt x y yt) ty ρ (.int k (k.wrap (a*2^(min b.toNat k.bits)))):=by
 refine b7 ?_
 intro μ F w ρc o ho ht hr
 have h1:=hr x (by simp[Op.operands])
 have h2:=hr y (by simp[Op.operands])
 rw[hx] at h1
 rw[hy] at h2
 generalize hvx:ρc x=vx at h1
 generalize hvy:ρc y=vy at h2
 cases h1
 cases h2
 have hb':¬b < 0:=by omega
 exact⟨_,by simp[execOp,ho,hvx,hvy,eqGuard,binOp,Op.shift,hb'],.int _ _⟩
theorem a00 {P:Program} {xt yt:TypeId} {x y:Operand} {ty:TypeId} {ρ:Operand→AV} {k k':IntKind} {a b:Int} (hx:ρ x=.int k a) (hy:ρ y=.int k' b) (hb:0≤b):
  jF P (.binOp .shr xt x y yt) ty ρ (.int k (a.fdiv (2^(min b.toNat k.bits)))):=by
 refine b7 ?_
 intro μ F w ρc o ho ht hr
 have h1:=hr x (by simp[Op.operands])
 have h2:=hr y (by simp[Op.operands])
 rw[hx] at h1
 rw[hy] at h2
 generalize hvx:ρc x=vx at h1
 generalize hvy:ρc y=vy at h2
 cases h1
 cases h2
 have hb':¬b < 0:=by omega
 exact⟨_,by simp[execOp,ho,hvx,hvy,eqGuard,binOp,Op.shift,hb'],.int _ _⟩
theorem UK {P:Program} {op:BinOp} {xt yt:TypeId} {x y:Operand} {ty:TypeId} {ρ:Operand→AV} {k:IntKind} {a b r:Int} (hx:ρ x=.int k a) (hy:ρ y=.int k b) (h:KY op k a b=some r):
  jF P (.binOp op xt x y yt) ty ρ (.int k r):=by
 refine b7 ?_
 intro μ F w ρc o ho ht hr
 have h1:=hr x (by simp[Op.operands])
 have h2:=hr y (by simp[Op.operands])
 rw[hx] at h1
 rw[hy] at h2
 generalize hvx:ρc x=vx at h1
 generalize hvy:ρc y=vy at h2
 cases h1
 cases h2
 unfold KY at h
 split at h
 ·cases h;exact⟨_,by simp[execOp,ho,hvx,hvy,eqGuard,binOp,Op.intBits],.int _ _⟩
 ·cases h;exact⟨_,by simp[execOp,ho,hvx,hvy,eqGuard,binOp,Op.intBits],.int _ _⟩
 ·cases h;exact⟨_,by simp[execOp,ho,hvx,hvy,eqGuard,binOp,Op.intBits],.int _ _⟩
 ·cases h;exact⟨_,by simp[execOp,ho,hvx,hvy,eqGuard,binOp,Op.intBits],.int _ _⟩
 ·split at h
  ·cases h
  ·rename_i h0
   cases h
   exact⟨_,by simp[execOp,ho,hvx,hvy,eqGuard,binOp,Op.intDiv,h0],.int _ _⟩
 ·split at h
  ·cases h
  ·rename_i h0
   cases h
   exact⟨_,by simp[execOp,ho,hvx,hvy,eqGuard,binOp,Op.intDiv,h0],.int _ _⟩
 ·cases h
theorem Y7 {P:Program} {op:BinOp} {xt yt:TypeId} {x y:Operand} {ty:TypeId} {ρ:Operand→AV} {r:AV} (h:XH op (ρ x) (ρ y)=some r):jF P (.binOp op xt x y yt) ty ρ r:=by
 unfold XH at h
 split at h
 ·rename_i k a k' b e1 e2
  split at h
  ·rename_i hb;cases h;exact a09 e1 e2 hb
  ·cases h
 ·rename_i k a k' b e1 e2
  split at h
  ·rename_i hb;cases h;exact a00 e1 e2 hb
  ·cases h
 ·rename_i k a k' b _ _ e1 e2
  split at h
  ·rename_i hk
   subst hk
   split at h
   ·rename_i r' hr'
    cases h
    exact UK e1 e2 hr'
   ·cases h
  ·cases h
 ·cases h
end Go.Ab
namespace Go.Ab
open Go.RowKit
def FX (τ:Tab) (ft:TypeId) (o:Nat) (l:List AV):Option AV:=
 match aJ τ ft with
 |some fi=>if fi.agg=true then some (.agg ((l.drop o).take fi.size)) else l[o]?
 |none=>none
theorem BQ {P:Program} {τ:Tab} (hτ:TabOK P τ) {μ:Mu} {F:c8} {w:World} {l:List AV} {c:Array Value} (hs:c.size=l.length)
  (hc:∀(i:Nat) (x:AV) (u:Value),l[i]? =some x→c[i]? =some u→bP μ F w x u) (hone:∀(i:Nat) (u:Value),c[i]? =some u→u.oneCell'=true)
  {ft:TypeId} {off:Nat} {r:AV} (h:FX τ ft off l=some r):∃v,(part ft c off).run P w=.ok v w∧bP μ F w r v:=by
 unfold FX at h
 split at h
 case h_2=>cases h
 rename_i fi hfi
 obtain⟨ff,fd,fz,H⟩:=TI.spec hτ hfi
 have ha:=H.isAgg w
 split at h
 ·rename_i hagg
  cases h
  refine⟨.agg (c.extract off (off+fi.size)),?_,?_⟩
  ·simp[part,ha,hagg,run_sizeOf w H.info,H.size,H.cellsOf]
  ·have hsz:∀i:Nat,(c.extract off (off+fi.size))[i]? =if i < fi.size then c[off+i]? else none:=by
    intro i
    rw[Array.getElem?_extract]
    by_cases hi:i < fi.size
    ·rw[if_pos hi]
     by_cases hb:off+i < c.size
     ·rw[if_pos (by omega)]
     ·rw[if_neg (by omega),Array.getElem?_eq_none (by omega)]
    ·rw[if_neg hi,if_neg (by omega)]
   have hsl:∀i:Nat,((l.drop off).take fi.size)[i]? =if i < fi.size then l[off+i]? else none:=by
    intro i
    rw[List.getElem?_take]
    split
    ·rw[List.getElem?_drop]
    ·rfl
   refine .agg _ _ ?_ ?_ ?_
   ·simp only[Array.size_extract,List.length_take,List.length_drop]
    omega
   ·intro i y u hy hu'
    rw[hsl] at hy
    rw[hsz] at hu'
    split at hy
    ·rename_i hi
     rw[if_pos hi] at hu'
     exact hc _ _ _ hy hu'
    ·cases hy
   ·intro i u hu'
    rw[hsz] at hu'
    split at hu'
    ·exact hone _ _ hu'
    ·cases hu'
 ·rename_i hagg
  have hi:off < c.size:=by rw[hs];exact (List.getElem?_eq_some_iff.1 h).1
  refine⟨c[off],?_,hc _ r _ h (Array.getElem?_eq_getElem hi)⟩
  simp[part,ha,hagg,Array.getElem?_eq_getElem hi]
def VV (τ:Tab) (eq:TypeId→AV→AV→Option Bool):List (Nat×TypeId)→List AV→List AV→Option Bool
 |[],_,_=>some true
 |(o,ft)::r,l,m=>
  match FX τ ft o l,FX τ ft o m with
  |some u,some v=>(match eq ft u v,VV τ eq r l m with|some b,some c=>some (b&&c)|_,_=>none)
  |_,_=>none
def aeq (τ:Tab) (es:List TypeId):Nat→TypeId→AV→AV→Option Bool
 |0,_,_,_=>none
 |k+1,t,x,y=>
  match aJ τ t with
  |none=>none
  |some i=>
   match i.k,x,y with
   |.int _,.int p a,.int q b=>if p=q then some (decide (a=b)) else none
   |.bool,.bool a,.bool b=>some (a==b)
   |.str,.str a,.str b=>some (a==b)
   |.struct fs,.agg l,.agg m=>if es.contains t=true then VV τ (aeq τ es k) fs l m else none
   |_,_,_=>none
def pN (P:Program) (es:List TypeId):Prop:=
 ∀t,t∈es→P.stoodInHeld t=false∧P.eqGuardType P.depth t=false∧((P.fieldsOf t).toList.all fun f=>f.name != "_")=true
def a6r (P:Program) (es:List TypeId):Bool:=es.all fun t=>!P.stoodInHeld t&&!P.eqGuardType P.depth t&&(P.fieldsOf t).toList.all fun f=>f.name != "_"
theorem ZR {P:Program} {es:List TypeId} (h:a6r P es=true):pN P es:=by
 intro t ht
 have:=List.all_eq_true.1 h t ht
 simp only[Bool.and_eq_true,Bool.not_eq_true'] at this
 exact⟨this.1.1,this.1.2,this.2⟩
theorem HM {P:Program} {τ:Tab} (hτ:TabOK P τ) {μ:Mu} {F:c8} {w:World} {l m:List AV} {xs ys:Array Value} (hs:xs.size=l.length) (hs2:ys.size=m.length)
  (hc:∀(i:Nat) (x:AV) (u:Value),l[i]? =some x→xs[i]? =some u→bP μ F w x u) (hone:∀(i:Nat) (u:Value),xs[i]? =some u→u.oneCell'=true)
  (hc2:∀(i:Nat) (x:AV) (u:Value),m[i]? =some x→ys[i]? =some u→bP μ F w x u) (hone2:∀(i:Nat) (u:Value),ys[i]? =some u→u.oneCell'=true)
  {eq:TypeId→AV→AV→Option Bool} {d:Nat} (heq:∀t x y b vx vy,eq t x y=some b→bP μ F w x vx→bP μ F w y vy→(Op.equalIn d t vx vy).run P w=.ok b w):
  ∀(gs:List Field) (b:Bool),(gs.all fun f=>f.name != "_")=true→VV τ eq (gs.map fun f=>(f.offset,f.type)) l m=some b→(Op.eqFields d xs ys gs).run P w=.ok b w
 |[],b,_,h=>by
  simp only[List.map_nil,VV,Option.some.injEq] at h
  subst h
  simp[Op.eqFields]
 |g::gs,b,hn,h=>by
  simp only[List.all_cons,Bool.and_eq_true] at hn
  simp only[List.map_cons,VV] at h
  split at h
  case h_2=>cases h
  rename_i u v hu hv
  split at h
  case h_2=>cases h
  rename_i p q hp hq
  cases h
  obtain⟨vu,h1,h2⟩:=BQ hτ hs hc hone hu
  obtain⟨vv,h3,h4⟩:=BQ hτ hs2 hc2 hone2 hv
  have h5:=heq _ _ _ _ _ _ hp h2 h4
  have h6:=HM hτ hs hs2 hc hone hc2 hone2 heq gs q hn.2 hq
  have hne:g.name≠ "_" :=by simpa using hn.1
  simp only[Op.eqFields,hne,ne_eq,not_false_eq_true,if_true,Sem.run_bind,h1,h3,h5,Result.andThen_ok]
  cases p
  ·simp
  ·simp[h6]
theorem F8 {P:Program} {τ:Tab} (hτ:TabOK P τ) {es:List TypeId} (hes:pN P es) {μ:Mu} {F:c8} {w:World}:∀(k d:Nat),k≤d→∀(t:TypeId) (x y:AV) (b:Bool) (vx vy:Value),aeq τ es k t x y=some b→
  bP μ F w x vx→bP μ F w y vy→(Op.equalIn d t vx vy).run P w=.ok b w
 |0,_,_,_,_,_,_,_,_,h,_,_=>by cases h
 |k+1,0,hd,_,_,_,_,_,_,_,_,_=>by omega
 |k+1,d+1,hd,t,x,y,b,vx,vy,h,hx,hy=>by
  simp only[aeq] at h
  split at h
  case h_1=>cases h
  rename_i i hi
  obtain⟨f,fd,z,H⟩:=TI.spec hτ hi
  have hf:=H.fits
  split at h
  ·rename_i hk
   split at h
   case isFalse=>cases h
   rename_i hpq
   cases h
   subst hpq
   cases hx
   cases hy
   rw[hk] at hf
   cases fd<;>simp[TK.fits] at hf
   rw[run_equalIn_int w d t _ _ _ _ H.und]
   congr 1
  ·rename_i hk
   cases h
   cases hx
   cases hy
   rw[hk] at hf
   cases fd<;>simp[TK.fits] at hf
   exact run_equalIn_bool' w d t _ _ H.und
  ·rename_i hk
   cases h
   cases hx
   cases hy
   rw[hk] at hf
   cases fd<;>simp[TK.fits] at hf
   rw[run_equalIn_string w d t _ _ H.und,kU,kU]
  ·rename_i fs l m hk
   split at h
   case isFalse=>cases h
   rename_i hmem
   obtain⟨hs1,hs2,hs3⟩:=hes t (by simpa using hmem)
   rw[hk] at hf
   cases fd<;>simp[TK.fits] at hf
   rename_i gs
   obtain⟨c1,rfl,a1,a2,a3⟩:=hx.agg_inv
   obtain⟨c2,rfl,b1,b2,b3⟩:=hy.agg_inv
   have hfo:P.fieldsOf t=gs:=by simp[Program.fieldsOf,H.und]
   rw[run_equalIn_struct w d t c1 c2 (by rw[hfo];exact H.und) hs1]
   refine HM hτ a1 b1 a2 a3 b2 b3 (eq:=aeq τ es k) (d:=d) (fun t x y b vx vy h hx hy=>F8 hτ hes k d (by omega) t x y b vx vy h hx hy) _ b hs3 ?_
   rw[hfo,hf]
   exact h
  ·cases h
def LW (τ:Tab) (es:List TypeId) (op:BinOp) (t:TypeId) (x y:AV):Option AV:=
 match x,y with
 |.agg _,.agg _=>
  if es.contains t=true then
   match op,aeq τ es 64 t x y with
   |.eql,some b=>some (.bool b)
   |.neq,some b=>some (.bool (!b))
   |_,_=>none
  else none
 |_,_=>none
theorem a7t {P:Program} {τ:Tab} (hτ:TabOK P τ) {es:List TypeId} (hes:pN P es) {b:BinOp} {xt yt:TypeId} {x y:Operand} {ty:TypeId} {ρ:Operand→AV} {r:AV} (h:LW τ es b xt (ρ x) (ρ y)=some r):jF P (.binOp b xt x y yt) ty ρ r:=by
 refine b7 ?_
 intro μ F w ρc o ho ht hr
 have hx:=hr x (by simp[Op.operands])
 have hy:=hr y (by simp[Op.operands])
 generalize hvx:ρc x=vx at hx
 generalize hvy:ρc y=vy at hy
 unfold LW at h
 split at h
 case h_2=>cases h
 rename_i l m e1 e2
 rw[e1] at hx
 rw[e2] at hy
 have hx0:=hx
 have hy0:=hy
 obtain⟨c1,rfl,_⟩:=hx.agg_inv
 obtain⟨c2,rfl,_⟩:=hy.agg_inv
 split at h
 case isFalse=>cases h
 rename_i hmem
 have hg:=(hes xt (by simpa using hmem)).2.1
 split at h
 ·rename_i q hq
  cases h
  have:=F8 hτ hes 64 10000 (by omega) xt (.agg l) (.agg m) q _ _ (e1 ▸ e2 ▸ hq) hx0 hy0
  exact⟨.bool q,by simp only[execOp,ho,hvx,hvy,Sem.run_bind,run_eqGuard_agg w .eql xt x y c1 c2 hg,run_eql_struct,this,Result.andThen_ok];rfl,.bool _⟩
 ·rename_i q hq
  cases h
  have:=F8 hτ hes 64 10000 (by omega) xt (.agg l) (.agg m) q _ _ (e1 ▸ e2 ▸ hq) hx0 hy0
  exact⟨.bool (!q),by simp only[execOp,ho,hvx,hvy,Sem.run_bind,run_eqGuard_agg w .neq xt x y c1 c2 hg,run_neq_struct,this,Result.andThen_ok];rfl,.bool _⟩
 ·cases h
def nU:List AV→Option (List AV)
 |[]=>some []
 |a::r=>(match a.force with|some x=>(match nU r with|some y=>some (x::y)|none=>none)|none=>none)
theorem j6:∀{l m:List AV},nU l=some m→l=m
 |[],m,h=>by cases h;rfl
 |a::r,m,h=>by
  simp only[nU] at h
  split at h
  case h_2=>cases h
  rename_i x hx
  split at h
  case h_2=>cases h
  rename_i y hy
  cases h
  rw[AV.force_spec hx,j6 hy]
def a79 (x:AV):Option AV:=
 match x with
 |.agg l=>some (.ref l)
 |v=>(match v.force with|some u=>if u.solid=true then some (.ref [u]) else none|none=>none)
theorem QF {x r:AV} (h:a79 x=some r):x.solid=true∧r=.ref x.cells:=by
 cases x<;>simp only[a79,AV.force] at h<;>first
  |(cases h;exact⟨rfl,rfl⟩)
  |(split at h<;>first|(rename_i hs;cases h;exact⟨hs,rfl⟩)|cases h)
def tR (τ:Tab) (es:List TypeId) (ρ:Operand→AV) (op:Op):Option AV:=
 match op with
 |.binOp b xt x y yt=>(match LW τ es b xt (ρ x) (ρ y) with|some r=>some r|none=>(match AD τ ρ (.binOp b xt x y yt) with|some r=>some r|none=>XH b (ρ x) (ρ y)))
 |.box _ x=>a79 (ρ x)
 |.build t ps=>(match AD τ ρ (.build t ps) with|some (.agg l)=>(match nU l with|some m=>some (.agg m)|none=>none)|_=>none)
 |op=>AD τ ρ op
theorem sH {P:Program} {τ:Tab} (hτ:TabOK P τ) {es:List TypeId} (hes:pN P es) {ρ:Operand→AV} {op:Op} {ty:TypeId} {x:AV} (h:tR τ es ρ op=some x):jF P op ty ρ x:=by
 unfold tR at h
 split at h
 ·split at h
  ·rename_i r hr
   cases h
   exact a7t hτ hes hr
  ·split at h
   ·rename_i r hr
    cases h
    exact m9 hτ hr
   ·exact Y7 h
 ·have hs:=QF h
  rw[hs.2]
  exact a0r hs.1
 ·split at h
  case h_2=>cases h
  rename_i l hl
  split at h
  case h_2=>cases h
  rename_i m hm
  cases h
  rw[←j6 hm]
  exact m9 hτ hl
 ·exact m9 hτ h
theorem a1q {P:Program} {τ:Tab} (hτ:TabOK P τ) {ops:Array Oper} {cls:Nat→fQ} {Q:AX→AF→aG→Prop} {ds:List bJ} {l:List Nat} {i:Nat} {o:Oper} {t:List (Nat×AV)} {M:aG} {d:Nat} (hi:ops[i]? =some o) (hw:aT ops ⟨t,ds⟩ o=some true) (hd:o.dst=some d) {ty e:TypeId} {n:Nat} {ps:Array (Nat×Operand)} (ho:o.op=.buildSlice ty n ps) {ti ei:TI} (ht:aJ τ ty=some ti) (hk:ti.k=.slice e)
  (he:aJ τ e=some ei) (hpos:decide (0 < ei.size)=true) (hn:ps.size=n) (hidx:jZ ps.toList 0=true) (hsz:i9 ei.size (ps.toList.map fun p=>AF.ev ⟨t,ds⟩ p.2)=true) (hbig:decide (n*ei.size≤16777216)=true)
  {ys:List AV} (hys:nU (ps.toList.map fun p=>AF.ev ⟨t,ds⟩ p.2)=some ys) (h:DW P ops cls Q ds l ((d,.sl ei.size ys .full)::t) M):DW P ops cls Q ds (i::l) t M:=
 a5x hτ hi hw hd ho ht hk he hpos hn hidx hsz hbig (by rw[j6 hys];exact h)
end Go.Ab
namespace Go.Ab
open Go.RowKit
theorem AF.le_nil {d:List bJ} {f:AF} (h:d=f.d):AF.le ⟨[],d⟩ f:=⟨h,fun _=>Sub.top⟩
theorem AF.le_sub {k:Nat} {x:AV} {t:List (Nat×AV)} {d:List bJ} {f:AF} (h:Sub (f.get k) x) (h2:AF.le ⟨t,d⟩ f):AF.le ⟨(k,x)::t,d⟩ f:=by
 refine⟨h2.1,fun i=>?_⟩
 by_cases e:i=k
 ·subst e
  have:AF.get ⟨(i,x)::t,d⟩ i=x:=by simp[AF.get,aJ]
  rw[this]
  exact h
 ·have:AF.get ⟨(k,x)::t,d⟩ i=AF.get ⟨t,d⟩ i:=by simp[AF.get,aJ,e]
  rw[this]
  exact h2.2 i
theorem AF.le_cons {k:Nat} {x:AV} {t:List (Nat×AV)} {d:List bJ} {f:AF} (h:f.get k=x) (h2:AF.le ⟨t,d⟩ f):AF.le ⟨(k,x)::t,d⟩ f:=AF.le_sub (Sub.of_eq h) h2
theorem a9u {P:Program} {τ:Tab} {es:List TypeId} (hT:TabOK P τ∧pN P es) {ops:Array Oper} {cls:Nat→fQ} {Q:AX→AF→aG→Prop} {ds:List bJ} {l:List Nat} {i:Nat} {o:Oper} {t:List (Nat×AV)} {M:aG} {x y:AV} {d:Nat}
  (hi:ops[i]? =some o) (hw:aT ops ⟨t,ds⟩ o=some true) (hd:o.dst=some d) (ho:uQ (tR τ es (AF.ev ⟨t,ds⟩) o.op)=some x) (hx:x=y) (h:DW P ops cls Q ds l ((d,y)::t) M):DW P ops cls Q ds (i::l) t M:=
 fR hi hw hd (sH hT.1 hT.2 (nS (hx ▸ ho))) h
theorem aG.le_refl (M:aG):M.le M:=⟨rfl,fun _ _ h=>h⟩
theorem aG.le_nil {n:Nat} {M:aG} (h:n=M.next):aG.le ⟨n,[]⟩ M:=⟨h,fun _ _ h=>by cases h⟩
theorem aG.le_cons {n i:Nat} {o:c7} {l:List (Nat×c7)} {M:aG} (h:M.get i=some o) (h2:aG.le ⟨n,l⟩ M):aG.le ⟨n,(i,o)::l⟩ M:=by
 refine⟨h2.1,fun j p hj=>?_⟩
 by_cases e:j=i
 ·subst e
  have:aG.get ⟨n,(j,o)::l⟩ j=some o:=by simp[aG.get,aJ]
  rw[this] at hj
  cases hj
  exact h
 ·have:aG.get ⟨n,(i,o)::l⟩ j=aG.get ⟨n,l⟩ j:=by simp[aG.get,aJ,e]
  rw[this] at hj
  exact h2.2 j p hj
theorem wrap_small {i:Int} (h0:-9223372036854775808≤i) (h:i < 9223372036854775808):IntKind.wrap .i64 i=i:=by
 have e:(2:Int)^IntKind.i64.bits=18446744073709551616:=rfl
 have e':(2:Int)^(IntKind.i64.bits - 1)=9223372036854775808:=rfl
 simp only[IntKind.wrap,e,e']
 have:IntKind.i64.signed=true:=rfl
 rw[this]
 simp only[Bool.true_and,decide_eq_true_eq]
 split<;>omega
theorem yD {b c:Bool} (h:b=c):cH.ret (.bool b)=.ret (.bool c):=by rw[h]
theorem FN {k:IntKind} {b c:Int} (h:b=c):cH.ret (.int k b)=.ret (.int k c):=by rw[h]
theorem EW {α:Type} {f:α→AV} {l:List α} {i:Nat} {y:α} (h:l[i]? =some y):(l.map f)[((i:Int)).toNat]? =some (f y):=by simp[h]
theorem bM {α:Type} {l:List α} {i:Nat} {x:α} (h:l[i]? =some x):l.take (i+1)=l.take i++[x]:=by rw[List.take_add_one,h];rfl
theorem aZ {i:Nat} (h:i < 9223372036854775807):IntKind.wrap .i64 ((i:Int)+1)=((i+1:Nat):Int):=by
 rw[wrap_small (by omega) (by omega)]
 omega
theorem bC {r:Option Nat} {P:Program} {n:Nat} {Q:AX→AF→aG→Prop} {f:AF} {M:aG} {c:Code} (top:Nat) (I:Nat→AF→aG→Prop) {f0:AF} {M0:aG} {i0:Nat} (hi:i0≤top) (h0:I i0 f0 M0) (hj:aR M.next f M f0 M0)
  (round:∀i f1 M1,i≤top→I i f1 M1→W r P n c (sK (fun f' M'=>i < top∧∃f'' M'',I (i+1) f'' M''∧aR M.next f' M' f'' M'') Q) f1 M1):W r P n (.loop c) Q f M:=by
 refine lB (fun k f M=>∃i,i≤top∧k=top - i∧I i f M) (k:=top - i0) (f0:=f0) (M0:=M0) ⟨i0,hi,rfl,h0⟩ hj ?_
 rintro k f M ⟨i,hi,rfl,hI⟩
 refine (round i f M hi hI).mono ?_
 intro x f' M' hx
 cases x with
 |normal=>
  obtain⟨hlt,f'',M'',h1,h2⟩:=hx
  exact⟨top - (i+1),f'',M'',by omega,⟨i+1,hlt,rfl,h1⟩,h2⟩
 |_=>exact hx
end Go.Ab
namespace Go.Ab
open Go.RowKit
def cut (μ:Mu) (k:Nat):Mu:=fun id=>if id < k then μ id else none
theorem sT {μ:Mu} {k b o:Nat} (h:jG (cut μ k) b o):jG μ b o:=by
 obtain⟨id,h|⟨e,g,h,he⟩⟩:=h
 ·unfold cut at h
  split at h
  ·exact⟨id,.inl h⟩
  ·cases h
 ·unfold cut at h
  split at h
  ·exact⟨id,.inr ⟨e,g,h,he⟩⟩
  ·cases h
theorem AL {μ:Mu} {F:c8} {k b o:Nat} (h:iO μ F b o):iO (cut μ k) F b o:=⟨h.1,fun ho=>h.2 (sT ho)⟩
theorem xW {μ:Mu} {k i b:Nat} (h:dH (cut μ k) i b):dH μ i b:=by
 rcases h with h|⟨e,g,h⟩
 ·unfold cut at h
  split at h
  ·exact .inl h
  ·cases h
 ·unfold cut at h
  split at h
  ·exact .inr ⟨e,g,h⟩
  ·cases h
def aI (k:Nat) (x y:AV):Prop:=∀(μ:Mu) (F:c8) (w:World) (v:Value),bP μ F w x v→bP (cut μ k) F w y v
theorem aI.of_closed {k:Nat} {x:AV} (h:aN x):aI k x x:=fun μ F w v hr=>h μ (cut μ k) F F w v (fun _ _ hf=>AL hf) hr
theorem aI.sub {k:Nat} {x y z:AV} (h:aI k x y) (h2:Sub y z):aI k x z:=fun μ F w v hr=>h2 _ _ _ _ (h μ F w v hr)
theorem aI.pre {k:Nat} {x y z:AV} (h:Sub x y) (h2:aI k y z):aI k x z:=fun μ F w v hr=>h2 _ _ _ _ (h μ F w v hr)
theorem aI.top {k:Nat} {x:AV}:aI k x .top:=fun _ _ _ v _=>.top v
theorem aI.ptr {k id off:Nat} (h:decide (id < k)=true):aI k (.ptr id off) (.ptr id off):=by
 intro μ F w v hr
 have h':=of_decide_eq_true h
 cases hr with
 |ptr _ _ _ h1 h2 h3=>exact .ptr _ _ _ h1 (by simp[cut,h',h2]) (fun b hb=>h3 b (by simpa [cut,h'] using hb))
theorem aI.map {k id:Nat} (h:decide (id < k)=true):aI k (.map id) (.map id):=by
 intro μ F w v hr
 have h':=of_decide_eq_true h
 cases hr with
 |map _ _ h1 h2 h3=>exact .map _ _ h1 (by simp[cut,h',h2]) (fun b hb=>h3 b (by simpa [cut,h'] using hb))
theorem aI.tok {k id g sz:Nat} {xs:List AV} (h:decide (id < k)=true) (hc:∀x,x∈xs→(∀c,c∈x.cells→aN c)):aI k (.sl sz xs (.tok id g)) (.sl sz xs (.tok id g)):=by
 intro μ F w v hr
 have h':=of_decide_eq_true h
 obtain⟨A,cap,ad,vals,rfl,h1,h2,h3,h4,h5,h6,h7⟩:=hr.sl_inv
 refine .sl _ _ _ _ _ ad vals h1 h2 h3 h4 (fun i x j c hx hj=>⟨(h5 i x j c hx hj).1,AL (h5 i x j c hx hj).2⟩)
  (fun i x j c hx hj=>hc x (List.mem_of_getElem? hx) c (List.mem_of_getElem? hj) μ _ F F w _ (fun _ _ hf=>AL hf) (h6 i x j c hx hj)) ?_
 rcases h7 with h7|⟨p,g',h7,h8,h9⟩
 ·exact .inl (by simp[cut,h',h7])
 ·exact .inr ⟨p,g',by simp[cut,h',h7],h8,h9⟩
theorem aI.fn {k:Nat} {g:Fn} {l1 l2:List AV} (h1:∀x,x∈l1→aI k x x) (h2:∀x,x∈l2→aI k x x):aI k (.fn g l1 l2) (.fn g l1 l2):=by
 intro μ F w v h
 obtain⟨c1,c2,rfl,g1,g2,g3,g4⟩:=h.fn_inv
 exact .fn _ _ _ _ _ g1 g2 (fun i x u hx hu=>h1 x (List.mem_of_getElem? hx) μ F w u (g3 i x u hx hu)) (fun i x u hx hu=>h2 x (List.mem_of_getElem? hx) μ F w u (g4 i x u hx hu))
theorem aI.agg {k:Nat} {l:List AV} (hl:∀x,x∈l→aI k x x):aI k (.agg l) (.agg l):=by
 intro μ F w v h
 obtain⟨c,rfl,h1,h2,h3⟩:=h.agg_inv
 exact .agg _ _ h1 (fun i x u hx hu=>hl x (List.mem_of_getElem? hx) μ F w u (h2 i x u hx hu)) h3
theorem Sub.untag {sz:Nat} {xs:List AV} {t:eE}:Sub (.sl sz xs t) (.sl sz xs .none):=fun _ _ _ _ h=>tQ h
theorem Sub.empty {sz sz':Nat} {t:eE} (ht:t=.none∨t=.full):Sub (.sl sz [] t) (.sl sz' [] t):=by
 intro μ F w v h
 obtain⟨A,cap,ad,vals,rfl,h1,h2,h3,h4,h5,h6,h7⟩:=h.sl_inv
 refine .sl _ [] _ _ _ ad vals (by simp) h2 (by simp) (by simp) (by simp) (by simp) ?_
 rcases ht with rfl|rfl
 ·trivial
 ·exact h7
def BV (k:Nat) (f:AF):List (Nat×AV)→Prop
 |[]=>True
 |(i,x)::r=>aI k (f.get i) x∧BV k f r
theorem u4 {k:Nat} {f:AF}:∀{l:List (Nat×AV)} {d:List bJ},BV k f l→∀t,aI k (f.get t) (AF.get ⟨l,d⟩ t)
 |[],d,_,t=>aI.top
 |(i,x)::r,d,h,t=>by
  by_cases e:t=i
  ·subst e
   have:AF.get ⟨(t,x)::r,d⟩ t=x:=by simp[AF.get,aJ]
   rw[this];exact h.1
  ·have:AF.get ⟨(i,x)::r,d⟩ t=AF.get ⟨r,d⟩ t:=by simp[AF.get,aJ,e]
   rw[this];exact u4 h.2 t
def H8 (k:Nat):Option c7→c7→Prop
 |some (.cells l),.cells m=>l.length=m.length∧∀(i:Nat) (x y:AV),l[i]? =some x→m[i]? =some y→aI k x y
 |some (.spare g),.spare g'=>g=g'
 |some (.raw g o vs t),.raw g' o' vs' t'=>g=g'∧o=o'∧vs=vs'∧∀i,aI k ((aJ t i).getD .top) ((aJ t' i).getD .top)
 |_,_=>False
def gE (k:Nat) (M:aG):List (Nat×c7)→Prop
 |[]=>True
 |(i,o)::r=>i < k∧H8 k (M.get i) o∧gE k M r
theorem oR {k:Nat} {M:aG}:∀{l:List (Nat×c7)} {i:Nat} {o:c7},gE k M l→aJ l i=some o→i < k∧H8 k (M.get i) o
 |[],i,o,_,h=>by cases h
 |(j,p)::r,i,o,h,hl=>by
  simp only[aJ] at hl
  split at hl
  ·rename_i e
   cases hl
   subst e
   exact⟨h.1,h.2.1⟩
  ·exact oR h.2.2 hl
theorem F6 {μ:Mu} {F:c8} {M:aG} {w:World} (h:dY μ F M w) {k:Nat} (hk:k≤M.next) {l:List (Nat×c7)} (ho:gE k M l):dY (cut μ k) F ⟨k,l⟩ w:=by
 refine⟨?_,?_,?_,?_,?_,?_,?_⟩
 ·intro id
  unfold cut
  split
  ·rename_i hlt
   exact⟨fun _=>hlt,fun _=>(h.dom id).2 (Nat.lt_of_lt_of_le hlt hk)⟩
  ·rename_i hlt
   exact⟨fun e=>absurd rfl e,fun e=>absurd e hlt⟩
 ·intro id m hm
  obtain⟨hlt,hob⟩:=oR ho hm
  cases hM:M.get id with
  |none=>rw[hM] at hob;exact hob.elim
  |some o=>
   rw[hM] at hob
   cases o with
   |spare g=>exact hob.elim
   |raw g o vs t=>exact hob.elim
   |cells l0=>
    obtain⟨b,c,ty,h1,h2,h3,h4,h5⟩:=h.obj id l0 hM
    refine⟨b,c,ty,by simp[cut,hlt,h1],h2,by rw[h3];exact hob.1,h4,?_⟩
    intro i x v hx hv
    have hi:i < l0.length:=by rw[hob.1];exact (List.getElem?_eq_some_iff.1 hx).1
    exact hob.2 i _ x (List.getElem?_eq_getElem hi) hx μ F w v (h5 i _ v (List.getElem?_eq_getElem hi) hv)
 ·intro id g hm
  obtain⟨hlt,hob⟩:=oR ho hm
  cases hM:M.get id with
  |none=>rw[hM] at hob;exact hob.elim
  |some o=>
   rw[hM] at hob
   cases o with
   |cells l0=>exact hob.elim
   |raw g o vs t=>exact hob.elim
   |spare g'=>
    have:g'=g:=hob
    subst this
    obtain⟨p,h1,h2⟩:=h.spare id g' hM
    exact⟨p,by simp[cut,hlt,h1],h2⟩
 ·intro i j b hi hj
  exact h.inj i j b (xW hi) (xW hj)
 ·intro b o ho'
  exact h.frm b o (sT ho')
 ·exact⟨fun b o ho'=>h.fit.own b o (sT ho'),h.fit.frm⟩
 ·intro id gg o vs t hm
  obtain⟨hlt,hob⟩:=oR ho hm
  cases hM:M.get id with
  |none=>rw[hM] at hob;exact hob.elim
  |some q=>
   rw[hM] at hob
   cases q with
   |cells l0=>exact hob.elim
   |spare g=>exact hob.elim
   |raw g0 o0 vs0 t0=>
    obtain⟨h0,h1,h2,h3⟩:g0=gg∧o0=o∧vs0=vs∧∀i,aI k ((aJ t0 i).getD .top) ((aJ t i).getD .top):=hob
    subst h0
    subst h1
    subst h2
    obtain⟨b,h4,h5,h6⟩:=h.raw id _ _ _ _ hM
    exact⟨b,h4.congr (by simp[cut,hlt]),h5,fun i=>h3 i μ F w _ (h6 i)⟩
theorem EC {w0 w:World} {μ0 μ:Mu} (h:dQ w0 μ0 w μ) {k:Nat} (hk:∀id,μ0 id≠none→id < k):dQ w0 μ0 w (cut μ k):=by
 refine⟨h.os,h.tape,h.output,h.size,?_,h.same,h.part,fun b o hb ho=>h.own b o hb (sT ho)⟩
 intro id hid
 have:=hk id hid
 simp only[cut,this,if_true]
 exact h.mu id hid
theorem aR.cut {n0:Nat} {f:AF} {M:aG} {k:Nat} (hk:n0≤k) (hk2:k≤M.next) {t:List (Nat×AV)} {l:List (Nat×c7)} (hd:f.d=[]) (ht:BV k f t) (ho:gE k M l):aR n0 f M ⟨t,[]⟩ ⟨k,l⟩:=by
 intro μ0 μ F w0 w n a hn he hg hr
 refine⟨Go.Ab.cut μ k,EC he (fun id h=>Nat.lt_of_lt_of_le (hn id h) hk),F6 hg hk2 ho,hr.size,fun i=>u4 ht i μ F w _ (hr.tmps i),?_,fun p hp=>by cases hp⟩
 have:=hr.defs
 rw[hd] at this
 show fM _ _ _ [] a.defers
 rw[fN this]
 trivial
theorem OC {μ:Mu} {F:c8} {M:aG} {w:World} (hg:dY μ F M w):dQ w μ w (μ.put M.next (.spare none 0))∧dY (μ.put M.next (.spare none 0)) F (M.push (.spare 0)) w∧
  ∀(sz sz':Nat) (xs:List AV) (v:Value),(sz'=sz∨xs=[])→bP μ F w (.sl sz xs .full) v→bP (μ.put M.next (.spare none 0)) F w (.sl sz' xs (.tok M.next 0)) v:=by
 obtain⟨hev,hG⟩:=tK hg (w':=w) (p:=none) rfl rfl rfl (Nat.le_refl _) (id:=M.next) (g:=0) (.inl ⟨rfl,fun _ _=>rfl⟩) (by intro b e h;cases h)
 refine⟨hev,hG _ (by simp[aG.push]) (fun i=>aG.get_push M _ i),?_⟩
 intro sz sz' xs v hsx hr
 have hr':=hr.evo hev
 obtain⟨A',cap',b,o,vals,hv,hsz,hcap,hA,hat,htag⟩:=hr'.sl_flat
 subst hv
 refine r4 (b:=b) (o:=o) (vals:=vals) ?_ hcap hA hat (.inr ⟨none,0,by simp[Mu.put],Nat.le_refl _,fun _=>htag⟩)
 rcases hsx with rfl|rfl
 ·exact hsz
 ·simp
theorem aR.tok {n0:Nat} {t:List (Nat×AV)} {ds:List bJ} {M:aG} (i:Nat) {sz:Nat} {xs:List AV} (h:AF.get ⟨t,ds⟩ i=.sl sz xs .full) {sz':Nat} (hs:sz'=sz∨xs=[]):
  aR n0 ⟨t,ds⟩ M ⟨(i,.sl sz' xs (.tok M.next 0))::t,ds⟩ (M.push (.spare 0)):=by
 intro μ0 μ F w0 w n a hn he hg hr
 obtain⟨hev,hG,hrep⟩:=OC hg
 refine⟨_,he.trans hev,hG,hr.size,?_,hr.defs.evo hev,fun p hp=>(hr.kept p hp).evo hev⟩
 intro j
 by_cases e:j=i
 ·subst e
  have h1:=hr.tmps j
  rw[h] at h1
  have:AF.get ⟨(j,.sl sz' xs (.tok M.next 0))::t,ds⟩ j=.sl sz' xs (.tok M.next 0):=by simp[AF.get,aJ]
  rw[this]
  exact hrep sz sz' xs _ hs h1
 ·have:AF.get ⟨(i,.sl sz' xs (.tok M.next 0))::t,ds⟩ j=AF.get ⟨t,ds⟩ j:=by simp[AF.get,aJ,e]
  rw[this]
  exact (hr.tmps j).evo hev
theorem aR.tokM {n0:Nat} {f:AF} {M:aG} (id i:Nat) {l:List AV} (hM:M.get id=some (.cells l)) {sz:Nat} {xs:List AV} (h:l[i]? =some (.sl sz xs .full)) {sz':Nat} (hs:sz'=sz∨xs=[]):
  aR n0 f M f ((M.push (.spare 0)).set id (.cells (l.set i (.sl sz' xs (.tok M.next 0))))):=by
 intro μ0 μ F w0 w n a hn he hg hr
 obtain⟨hev,hG,hrep⟩:=OC hg
 refine⟨_,he.trans hev,?_,hr.evo hev⟩
 have hne:id≠M.next:=by
  rintro rfl
  obtain⟨b,c,ty,h1,_⟩:=hg.obj _ _ hM
  have:=lH hg
  rw[this] at h1
  cases h1
 refine⟨?_,?_,?_,hG.inj,hG.frm,hG.fit,?_⟩
 ·intro j
  exact hG.dom j
 ·intro j m hm
  rw[aG.get_set] at hm
  split at hm
  ·rename_i e
   cases hm
   subst e
   obtain⟨b,c,ty,h1,h2,h3,h4,h5⟩:=hg.obj j l hM
   refine⟨b,c,ty,by simp[Mu.put,hne,h1],h2,by rw[List.length_set];exact h3,h4,?_⟩
   intro q x v hx hv
   rw[List.getElem?_set] at hx
   split at hx
   ·rename_i e
    subst e
    split at hx
    ·cases hx
     exact hrep sz sz' xs v hs (h5 i _ v h hv)
    ·cases hx
   ·exact (h5 q x v hx hv).evo hev
  ·exact hG.obj j m hm
 ·intro j g hm
  rw[aG.get_set] at hm
  split at hm
  ·cases hm
  ·exact hG.spare j g hm
 ·intro j gg o vs t hm
  rw[aG.get_set] at hm
  split at hm
  ·cases hm
  ·exact hG.raw j gg o vs t hm
theorem aQ.joint {P:Program} {g:FuncId} {args:List AV} {M:aG} {R R':cH→aG→Prop} (h:aQ P g args M R)
  (hr:∀x M',R (.ret x) M'→∃y N,R' (.ret y) N∧aR M.next ⟨[(0,x)],[]⟩ M' ⟨[(0,y)],[]⟩ N)
  (hp:∀x M',R (.pan x) M'→∃y N,R' (.pan y) N∧aR M.next ⟨[(0,x)],[]⟩ M' ⟨[(0,y)],[]⟩ N):aQ P g args M R':=by
 refine⟨h.1,fun μ F w vs hg hv=>(h.2 μ F w vs hg hv).mono ?_⟩
 rintro e w' ⟨μ',M',h1,h2,h3⟩
 have hdom:∀id,μ id≠none→id < M.next:=fun id h=>(hg.dom id).1 h
 have one:∀(x:AV) (v:Value),bP μ' F w' x v→gX μ' F w' 1 ⟨[(0,x)],[]⟩ {tmps:=#[v],defers:=[]}:=by
  intro x v hx
  refine⟨rfl,?_,trivial,fun p hp=>by cases hp⟩
  intro t
  cases t with
  |zero=>simpa [AF.get,aJ] using hx
  |succ t=>exact .top _
 cases e with
 |returned v=>
  obtain⟨x,h4,h5⟩:=h3
  obtain⟨y,N,k1,k2⟩:=hr x M' h5
  obtain⟨μ2,j1,j2,j3⟩:=k2 μ μ' F w w' 1 _ hdom h1 h2 (one x v h4)
  have:=j3.tmps 0
  exact⟨μ2,N,j1,j2,y,by simpa [AF.get,aJ] using this,k1⟩
 |panicked ch=>
  obtain⟨x,v,h4,h5,h6⟩:=h3
  obtain⟨y,N,k1,k2⟩:=hp x M' h6
  obtain⟨μ2,j1,j2,j3⟩:=k2 μ μ' F w w' 1 _ hdom h1 h2 (one x v h5)
  have:=j3.tmps 0
  exact⟨μ2,N,j1,j2,y,v,h4,by simpa [AF.get,aJ] using this,k1⟩
 |outgrown=>exact h3.elim
theorem aQ.sub {P:Program} {g:FuncId} {args args':List AV} {M:aG} {R:cH→aG→Prop} (h:aQ P g args' M R) (hl:args.length=args'.length) (hs:∀(i:Nat) (x y:AV),args[i]? =some x→args'[i]? =some y→Sub x y):aQ P g args M R:=by
 refine⟨h.1,fun μ F w vs hg hv=>h.2 μ F w vs hg ⟨by rw[hv.1,hl],fun i y v hy hv'=>?_⟩⟩
 have hi:i < args.length:=by rw[hl];exact (List.getElem?_eq_some_iff.1 hy).1
 exact hs i _ y (List.getElem?_eq_getElem hi) hy _ _ _ _ (hv.2 i _ v (List.getElem?_eq_getElem hi) hv')
end Go.Ab
namespace Go.Ab
open Go.RowKit
def V5 (τ:Tab) (es:List TypeId) (ops:Array Oper) (cls:Nat→fQ) (ds:List bJ) (i:Nat) (t:List (Nat×AV)) (M:aG):Option (List (Nat×AV)×aG):=
 match ops[i]? with
 |none=>none
 |some o=>
  match aT ops ⟨t,ds⟩ o with
  |none=>none
  |some false=>some (match o.dst with|some d=>(d,.tup [])::t|none=>t,M)
  |some true=>
   match uQ (tR τ es (AF.ev ⟨t,ds⟩) o.op) with
   |some x=>(match o.dst with|some d=>some ((d,x)::t,M)|none=>some (t,M))
   |none=>
    match (match pG (cls i) with|true=>uQ (L0 τ (AF.ev ⟨t,ds⟩) M o.op)|false=>none) with
    |some x=>(match o.dst with|some d=>some ((d,x)::t,M)|none=>some (t,M))
    |none=>
     match (match n7 (cls i) with|true=>yS (H5 τ (AF.ev ⟨t,ds⟩) M o.op)|false=>none) with
     |some (x,N)=>(match o.dst with|some d=>some ((d,x)::t,N)|none=>some (t,N))
     |none=>none
theorem aBl {P:Program} {τ:Tab} {es:List TypeId} (hT:TabOK P τ∧pN P es) {ops:Array Oper} {cls:Nat→fQ} {Q:AX→AF→aG→Prop} {ds:List bJ} {l:List Nat} {i:Nat} {t t':List (Nat×AV)} {M M':aG}
  (hs:V5 τ es ops cls ds i t M=some (t',M')) (h:DW P ops cls Q ds l t' M'):DW P ops cls Q ds (i::l) t M:=by
 have hput:∀(o:Oper) (x:AV),(AF.put ⟨t,ds⟩ o.dst x).t=(match o.dst with|some d=>(d,x)::t|none=>t):=by
  intro o x
  cases o.dst<;>rfl
 unfold V5 at hs
 split at hs
 case h_1=>cases hs
 rename_i o hi
 split at hs
 case h_1=>cases hs
 ·rename_i hw
  simp only[Option.some.injEq,Prod.mk.injEq] at hs
  obtain⟨rfl,rfl⟩:=hs
  refine⟨?_⟩
  unfold LH
  simp only[hi,hw]
  rw[hput]
  exact h.run
 ·rename_i hw
  split at hs
  ·rename_i x hx
   have hk:DW P ops cls Q ds l (AF.put ⟨t,ds⟩ o.dst x).t M:=by
    rw[hput]
    cases hd:o.dst<;>rw[hd] at hs<;>cases hs<;>exact h
   exact eN hi hw (SC.of_P (sH hT.1 hT.2 (nS hx)) hk)
  ·split at hs
   ·rename_i x hx
    have hk:DW P ops cls Q ds l (AF.put ⟨t,ds⟩ o.dst x).t M:=by
     rw[hput]
     cases hd:o.dst<;>rw[hd] at hs<;>cases hs<;>exact h
    split at hx
    ·rename_i hc
     exact eN hi hw (SC.of_R hc (EN hT.1 (nS hx)) hk)
    ·cases hx
   ·split at hs
    ·rename_i x N hx
     have hk:DW P ops cls Q ds l (AF.put ⟨t,ds⟩ o.dst x).t N:=by
      rw[hput]
      cases hd:o.dst<;>rw[hd] at hs<;>cases hs<;>exact h
     split at hx
     ·rename_i hc
      exact eN hi hw (SC.of_E hc (w8 hT.1 (wB hx)) hk)
     ·cases hx
    ·cases hs
end Go.Ab
