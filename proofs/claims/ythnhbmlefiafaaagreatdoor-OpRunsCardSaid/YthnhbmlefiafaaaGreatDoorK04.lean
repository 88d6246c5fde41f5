/- Parts of the proof, one behind the other. No further condition. -/
import Derived.Test.YthnhbmlefiafaaaGreatDoorK03
set_option linter.unusedVariables false
set_option linter.unusedSimpArgs false
set_option maxRecDepth 100000
set_option maxHeartbeats 8000000
namespace Go.Ab
open Go.RowKit
def a1e:AV→AV→Bool
 |.bool _,.bool _=>true
 |_,_=>false
def ZR (τ:Tab) (t:TypeId):Bool:=match aK τ t with|some i=>(match i.k with|.bool=>true|_=>false)|none=>false
theorem MK {P:Program} {τ:Tab} (hτ:TabOK P τ) {t:TypeId} (h:ZR τ t=true):P.underlying t=some .bool:=by
 unfold ZR at h
 split at h
 case h_2=>cases h
 rename_i i hi
 obtain⟨f,d,z,H⟩:=TI.spec hτ hi
 have hf:=H.fits
 split at h
 case h_2=>cases h
 rename_i hk
 rw[hk] at hf
 cases d<;>simp[TK.fits] at hf
 exact H.und
def JM (τ:Tab) (t:TypeId) (ix:AV):Option (Nat×TI):=
 match aK τ t,ix with
 |some i,.int _ n=>(match i.k with|.array len e=>(match aK τ e with|some ei=>if 0≤n∧n < len then some (n.toNat,ei) else none|none=>none)|_=>none)
 |_,_=>none
def WD (τ:Tab) (ρ:Operand→AV) (op:Op):Option AV:=
 match op with
 |.move x=>some (ρ x)
 |.assign x=>some (ρ x)
 |.pick c a b=>Z2 (ρ c) (ρ a) (ρ b)
 |.binOp b xt x y _=>if a1e (ρ x) (ρ y)=true then (if ZR τ xt=true then a1b b (ρ x) (ρ y) else none) else a1b b (ρ x) (ρ y)
 |.unOp u _ x=>aun u (ρ x)
 |.convert s d x=>V0 τ s d (ρ x)
 |.makeInterface t x=>WV τ t (ρ x)
 |.makeFunc g a b=>some (.fn g (a.toList.map ρ) (b.toList.map ρ))
 |.extract t i=>a6c (ρ t) i
 |.field t x j=>O4 τ t j (ρ x)
 |.load t x=>YQ τ t (ρ x)
 |.fieldAddr t x j=>NI τ t j (ρ x)
 |.call {callee:=.builtin .len,args:=⟨[x]⟩,argTypes:=⟨[t]⟩}=>XU τ t (ρ x)
 |.call {callee:=.builtin .min,args:=⟨[x,y]⟩,argTypes:=_}=>amm false (ρ x) (ρ y)
 |.call {callee:=.builtin .max,args:=⟨[x,y]⟩,argTypes:=_}=>amm true (ρ x) (ρ y)
 |_=>none
theorem IT {P:Program} {τ:Tab} (hτ:TabOK P τ) {ρ:Operand→AV} {op:Op} {ty:TypeId} {x:AV} (h:WD τ ρ op=some x):jY P op ty ρ x:=by
 unfold WD at h
 split at h
 ·cases h;exact YN
 ·cases h;exact OF
 ·exact VV h
 ·split at h
  ·split at h
   ·rename_i hb;exact Q2 (fun _=>MK hτ hb) h
   ·cases h
  ·rename_i hb
   refine Q2 ?_ h
   rintro⟨p,q,e1,e2⟩
   rw[e1,e2] at hb
   exact absurd rfl hb
 ·exact a5y h
 ·exact YX hτ h
 ·exact YO hτ h
 ·cases h;exact mR
 ·exact a06 h
 ·exact R7 hτ h
 ·exact XI hτ h
 ·exact RH hτ h
 ·exact a00 hτ h
 ·exact a3k h
 ·exact a23 h
 ·cases h
def UG (τ:Tab) (ρ:Operand→AV) (M:aI) (op:Op):Option AV:=
 match op with
 |.load t x=>eS M τ t (ρ x)
 |.fieldAddr t x j=>EE M τ t j (ρ x)
 |.nilCheck x=>a4u M (ρ x)
 |_=>none
theorem KF {P:Program} {τ:Tab} (hτ:TabOK P τ) {ρ:Operand→AV} {M:aI} {op:Op} {ty:TypeId} {x:AV} (h:UG τ ρ M op=some x):x7 P op ty ρ M x:=by
 unfold UG at h
 split at h
 ·exact J8 hτ h
 ·exact R5 hτ h
 ·exact a2r h
 ·cases h
def C2 (τ:Tab) (M:aI) (t:TypeId) (x y:AV):Option aI:=
 match x with
 |.ptr id off=>
  match M.get id,aK τ t with
  |some (.cells l),some i=>if y.solid=true∧y.cells.length=i.size∧off+i.size≤l.length then some (M.set id (.cells (bA l off y.cells))) else none
  |_,_=>none
 |_=>none
def IS (τ:Tab) (ρ:Operand→AV) (M:aI) (op:Op):Option (AV×aI):=
 match op with
 |.box _ x=>if (ρ x).solid=true then some (.ptr M.next 0,M.push (.cells (ρ x).cells)) else none
 |.alloc t=>(match aK τ t with|some i=>if (i.agg=true∨i.size=1)∧i.zv.solid=true then some (.ptr M.next 0,M.push (.cells i.zv.cells)) else none|none=>none)
 |.store t x y=>(match C2 τ M t (ρ x) (ρ y) with|some M'=>some (.top,M')|none=>none)
 |_=>none
theorem wG {P:Program} {τ:Tab} (hτ:TabOK P τ) {ρ:Operand→AV} {M M':aI} {op:Op} {ty:TypeId} {x:AV} (h:IS τ ρ M op=some (x,M')):KX P op ty ρ M x M':=by
 unfold IS at h
 split at h
 ·split at h
  ·rename_i hs;cases h;exact a0j hs
  ·cases h
 ·split at h
  case h_2=>cases h
  rename_i i hi
  split at h
  ·rename_i hs;cases h;exact RI hτ hi hs.1 hs.2
  ·cases h
 ·split at h
  case h_2=>cases h
  rename_i M1 hM
  cases h
  unfold C2 at hM
  split at hM
  case h_2=>cases hM
  rename_i id off e
  split at hM
  case h_2=>cases hM
  rename_i l i hl hi
  split at hM
  case isFalse=>cases hM
  rename_i hs
  cases hM
  exact uK hτ hi e hl hs.1 hs.2.1 hs.2.2
 ·cases h
def AV.force:AV→Option AV
 |.int k n=>some (.int k n)
 |.bool b=>some (.bool b)
 |.str s=>some (.str s)
 |.sl z xs t=>some (.sl z xs t)
 |.ptr i o=>some (.ptr i o)
 |.ref c=>some (.ref c)
 |.nilptr=>some .nilptr
 |.nilIface=>some .nilIface
 |.iface t v=>some (.iface t v)
 |.nilFunc=>some .nilFunc
 |.fn f a b=>some (.fn f a b)
 |.agg l=>some (.agg l)
 |.tup l=>some (.tup l)
 |.map i=>some (.map i)
 |.nilmap=>some .nilmap
 |.osl i o n c z=>some (.osl i o n c z)
 |.yld i=>some (.yld i)
 |.bsl i g n c=>some (.bsl i g n c)
 |.top=>some .top
theorem AV.force_spec {x y:AV} (h:x.force=some y):x=y:=by cases x<;>(simp only[AV.force,Option.some.injEq] at h;exact h)
def aI.force:aI→Option aI
 |⟨n,l⟩=>some ⟨n,l⟩
theorem aI.force_spec {x y:aI} (h:x.force=some y):x=y:=by cases x;simp only[aI.force,Option.some.injEq] at h;exact h
end Go.Ab
namespace Go.Ab
open Go.RowKit
inductive fZ where
 |P
 |R
 |E
 |Y
def X1:fZ→Bool
 |.P|.R=>true
 |_=>false
abbrev Fr:=Nat→AV
def L0 (φ:Fr):Operand→AV
 |.tmp t=>φ t
 |.const v=>PL v
 |.global _=>.top
 |.func g=>.fn (.func g) [] []
def j4 (φ:Fr) (dst:Option Tmp) (x:AV):Fr:=
 match dst with
 |some d=>fun t=>if t=d then x else φ t
 |none=>φ
def yK (ops:Array Oper) (φ:Fr) (o:Oper):Option Bool:=
 match o.guard with
 |none=>some true
 |some (j,b)=>
  match (ops[j]?).bind (·.dst) with
  |some d=>(match φ d with|.bool c=>some (c==b)|.tup []=>some false|_=>none)
  |none=>none
def jQ (P:Program) (o:Oper) (ρ:Operand→AV) (M:aI) (K Kp:AV→aI→Prop):Prop:=
 ∀(μ:Mu) (F:cO) (w:World) (a:Act),eP μ F M w→(∀y∈o.op.operands,bR μ F w (ρ y) (a.eval y))→∀(next:Act→World→Prop) (Q':Exit→Act→World→Prop),
  (∀μ' M' w' v u,eB w μ w' μ'→eP μ' F M' w'→bR μ' F w' u v→K u M'→next (a.put o.dst v) w')→
  (∀μ' M' w' v u,eB w μ w' μ'→eP μ' F M' w'→bR μ' F w' u v→Kp u M'→Q' (.panic [{v,recovered:=false}]) a w')→o.wp P a w next Q'
theorem jQ.mono {P:Program} {o:Oper} {ρ:Operand→AV} {M:aI} {K K' Kp:AV→aI→Prop} (h:jQ P o ρ M K Kp) (hk:∀u M,K u M→K' u M):jQ P o ρ M K' Kp:=
 fun μ F w a hg hr next Q' h1 h2=>h μ F w a hg hr next Q' (fun μ' M' w' v u e1 e2 e3 e4=>h1 μ' M' w' v u e1 e2 e3 (hk u M' e4)) h2
theorem jQ.congr {P:Program} {o:Oper} {ρ ρ':Operand→AV} {M:aI} {K Kp:AV→aI→Prop} (h:jQ P o ρ M K Kp) (he:∀y∈o.op.operands,ρ' y=ρ y):jQ P o ρ' M K Kp:=
 fun μ F w a hg hr next Q' h1 h2=>h μ F w a hg (fun y hy=>he y hy ▸ hr y hy) next Q' h1 h2
theorem jQ.of_E {P:Program} {o:Oper} {ρ:Operand→AV} {M M':aI} {x:AV} (h:KX P o.op o.type ρ M x M') {K Kp:AV→aI→Prop} (hk:K x M'):jQ P o ρ M K Kp:=by
 intro μ F w a hg hr next Q' h1 h2
 obtain⟨μ',nx,v,w',g1,g2,g3,g4,g5⟩:=h μ F w a.eval o hg rfl rfl hr
 unfold Oper.wp
 rw[g1]
 have:=h1 μ' M' w' v x g3 g4 g5 hk
 rcases g2 with rfl|⟨rfl,rfl⟩
 ·exact this
 ·exact this
def GH (P:Program) (o:Oper) (ρ:Operand→AV) (M:aI) (K Kp:AV→aI→Prop):Prop:=
 ∀(r:Option Nat) (μ:Mu) (F:cO) (w:World) (a:Act),eP μ F M w→(∀y∈o.op.operands,bR μ F w (ρ y) (a.eval y))→∀(next:Act→World→Prop) (Q':Exit→Act→World→Prop),
  (∀μ' M' w' v u,eB w μ w' μ'→eP μ' F M' w'→bR μ' F w' u v→K u M'→next (a.put o.dst v) w')→
  (∀μ' M' w' v u,eB w μ w' μ'→eP μ' F M' w'→bR μ' F w' u v→Kp u M'→Q' (.panic [{v,recovered:=false}]) a w')→o.wpIn (B1 r) 9 P a w next Q'
theorem GH.mono {P:Program} {o:Oper} {ρ:Operand→AV} {M:aI} {K K' Kp:AV→aI→Prop} (h:GH P o ρ M K Kp) (hk:∀u M,K u M→K' u M):GH P o ρ M K' Kp:=
 fun r μ F w a hg hr next Q' h1 h2=>h r μ F w a hg hr next Q' (fun μ' M' w' v u e1 e2 e3 e4=>h1 μ' M' w' v u e1 e2 e3 (hk u M' e4)) h2
theorem GH.congr {P:Program} {o:Oper} {ρ ρ':Operand→AV} {M:aI} {K Kp:AV→aI→Prop} (h:GH P o ρ M K Kp) (he:∀y∈o.op.operands,ρ' y=ρ y):GH P o ρ' M K Kp:=
 fun r μ F w a hg hr next Q' h1 h2=>h r μ F w a hg (fun y hy=>he y hy ▸ hr y hy) next Q' h1 h2
theorem jQ.toI {P:Program} {o:Oper} {ρ:Operand→AV} {M:aI} {K Kp:AV→aI→Prop} (hnd:∀c,o.op≠.defer c) (h:jQ P o ρ M K Kp):GH P o ρ M K Kp:=
 fun r μ F w a hg hr next Q' h1 h2=>O2 hnd (h μ F w a hg hr next Q' h1 h2)
theorem GH.of_E {P:Program} {o:Oper} {ρ:Operand→AV} {M M':aI} {x:AV} (h:KX P o.op o.type ρ M x M') {K Kp:AV→aI→Prop} (hk:K x M'):GH P o ρ M K Kp:=by
 intro r μ F w a hg hr next Q' h1 h2
 obtain⟨μ',nx,v,w',g1,g2,g3,g4,g5⟩:=h μ F w a.eval o hg rfl rfl hr
 exact H3 g1 g2 (h1 μ' M' w' v x g3 g4 g5 hk)
def SC (P:Program) (o:Oper) (c:fZ) (ρ:Operand→AV) (M:aI) (K Kp:AV→aI→Prop):Prop:=
 match c with
 |.P=>∃x,(∀N,jQ P o ρ N (fun u M'=>u=x∧M'=N) fun _ _=>False)∧K x M
 |.R=>∃x,jQ P o ρ M (fun u M'=>u=x∧M'=M) (fun _ _=>False)∧K x M
 |.E=>jQ P o ρ M K Kp
 |.Y=>GH P o ρ M K Kp
theorem SC.mono {P:Program} {o:Oper} {c:fZ} {ρ:Operand→AV} {M:aI} {K K' Kp:AV→aI→Prop} (h:SC P o c ρ M K Kp) (hk:∀u N,(X1 c=true→N=M)→K u N→K' u N):SC P o c ρ M K' Kp:=by
 cases c with
 |P=>obtain⟨x,h1,h2⟩:=h;exact⟨x,h1,hk x M (fun _=>rfl) h2⟩
 |R=>obtain⟨x,h1,h2⟩:=h;exact⟨x,h1,hk x M (fun _=>rfl) h2⟩
 |E=>exact jQ.mono h fun u N hu=>hk u N (fun hne=>by cases hne) hu
 |Y=>exact GH.mono h fun u N hu=>hk u N (fun hne=>by cases hne) hu
theorem SC.congr {P:Program} {o:Oper} {c:fZ} {ρ ρ':Operand→AV} {M:aI} {K Kp:AV→aI→Prop} (h:SC P o c ρ M K Kp) (he:∀y∈o.op.operands,ρ' y=ρ y):SC P o c ρ' M K Kp:=by
 cases c with
 |P=>obtain⟨x,h1,h2⟩:=h;exact⟨x,fun N=>(h1 N).congr he,h2⟩
 |R=>obtain⟨x,h1,h2⟩:=h;exact⟨x,h1.congr he,h2⟩
 |E=>exact jQ.congr h he
 |Y=>exact GH.congr h he
theorem SC.toI {P:Program} {o:Oper} {c:fZ} {ρ:Operand→AV} {M:aI} {K Kp:AV→aI→Prop} (hnd:∀c,o.op≠.defer c) (h:SC P o c ρ M K Kp):GH P o ρ M K Kp:=by
 have key:∀x,jQ P o ρ M (fun u M'=>u=x∧M'=M) (fun _ _=>False)→K x M→GH P o ρ M K Kp:=by
  intro x h1 h2 r μ F w a hg hr next Q' g1 g2
  refine h1.toI hnd r μ F w a hg hr next Q' (fun μ' M' w' v u e1 e2 e3 ⟨e4,e5⟩=>?_) (fun _ _ _ _ _ _ _ _ hf=>hf.elim)
  subst e4;subst e5
  exact g1 μ' _ w' v u e1 e2 e3 h2
 cases c with
 |P=>obtain⟨x,h1,h2⟩:=h;exact key x (h1 M) h2
 |R=>obtain⟨x,h1,h2⟩:=h;exact key x h1 h2
 |E=>exact jQ.toI hnd h
 |Y=>exact h
section
variable {P:Program} {ops:Array Oper} {cls:Nat→fZ} {Kp:AV→aI→Prop} {Q:Fr→aI→Prop}
def OH (P:Program) (ops:Array Oper) (cls:Nat→fZ) (Kp:AV→aI→Prop) (i:Nat) (K:Fr→aI→Prop) (φ:Fr) (M:aI):Prop:=
 match ops[i]? with
 |none=>K φ M
 |some o=>
  match yK ops φ o with
  |some true=>SC P o (cls i) (L0 φ) M (fun x M'=>K (j4 φ o.dst x) M') Kp
  |some false=>K (j4 φ o.dst (.tup [])) M
  |none=>False
def r7 (P:Program) (ops:Array Oper) (cls:Nat→fZ) (Kp:AV→aI→Prop) (Q:Fr→aI→Prop):Nat→Array Bool→Fr→aI→Prop
 |0,listed,φ,M=>Region.ready .any ops listed=[]∧Q φ M
 |k+1,listed,φ,M=>(Region.ready .any ops listed=[]→Q φ M)∧∀i∈Region.ready .any ops listed,OH P ops cls Kp i (r7 P ops cls Kp Q k (listed.setIfInBounds i true)) φ M
structure rY (μ:Mu) (F:cO) (w:World) (n:Nat) (φ:Fr) (ds:List bH) (a:Act):Prop where
 size:a.tmps.size=n
 tmps:∀t,bR μ F w (φ t) (a.tmps.getD t undef)
 defs:fY μ F w ds a.defers
 kept:∀p,p∈dE ds→bR μ F w p.2 (a.tmps.getD p.1 undef)
theorem pG {μ:Mu} {F:cO} {w:World} {l:List (Nat×AV)} {ds:List bH} {a:Act} (h:∀p,p∈l→bR μ F w p.2 (a.tmps.getD p.1 undef)):∀t,bR μ F w (AF.get ⟨l,ds⟩ t) (a.tmps.getD t undef):=by
 intro t
 unfold AF.get
 induction l with
 |nil=>exact .top _
 |cons p r ih=>
  obtain⟨k,x⟩:=p
  simp only[aK]
  by_cases e:t=k
  ·subst e
   rw[if_pos rfl]
   exact h (t,x) (by simp)
  ·rw[if_neg e]
   exact ih fun q hq=>h q (by simp[hq])
theorem rY.evo {μ μ':Mu} {F:cO} {w w':World} (hev:eB w μ w' μ') {n:Nat} {φ:Fr} {ds:List bH} {a:Act} (h:rY μ F w n φ ds a):rY μ' F w' n φ ds a:=
 ⟨h.size,fun t=>(h.tmps t).evo hev,h.defs.evo hev,fun p hp=>(h.kept p hp).evo hev⟩
theorem rY.ev {μ:Mu} {F:cO} {w:World} {n:Nat} {φ:Fr} {ds:List bH} {a:Act} (h:rY μ F w n φ ds a) (x:Operand):bR μ F w (L0 φ x) (a.eval x):=by
 cases x with
 |tmp t=>exact h.tmps t
 |const v=>exact QO _ _ _ _
 |global g=>exact .top _
 |func g=>exact .fn _ _ _ _ _ rfl rfl (by simp) (by simp)
theorem rY.put {μ:Mu} {F:cO} {w:World} {n:Nat} {φ:Fr} {ds:List bH} {a:Act} (h:rY μ F w n φ ds a) {dst:Option Tmp} (hd:∀d,dst=some d→d < n∧∀p,p∈dE ds→p.1≠d) {x:AV} {v:Value} (hr:bR μ F w x v):rY μ F w n (j4 φ dst x) ds (a.put dst v):=by
 cases dst with
 |none=>exact h
 |some d=>
  obtain⟨hlt,hk⟩:=hd d rfl
  refine⟨by simp[Act.put,h.size],?_,h.defs,fun p hp=>by
   have:=h.kept p hp
   simp only[Act.put]
   rw[Array.getD_eq_getD_getElem?,Array.getElem?_setIfInBounds_ne (Ne.symm (hk p hp)),←Array.getD_eq_getD_getElem?]
   exact this⟩
  intro t
  simp only[j4,Act.put]
  by_cases ht:t=d
  ·subst ht
   have:t < a.tmps.size:=by rw[h.size];exact hlt
   simp[Array.getElem?_setIfInBounds,this,hr]
  ·rw[if_neg ht]
   have:=h.tmps t
   rw[Array.getD_eq_getD_getElem?,Array.getElem?_setIfInBounds_ne (by omega),←Array.getD_eq_getD_getElem?]
   exact this
theorem K1 {μ:Mu} {F:cO} {w:World} {n:Nat} {φ:Fr} {ds:List bH} {a:Act} (hr:rY μ F w n φ ds a) {o:Oper} {b:Bool} (h:yK ops φ o=some b):Region.wanted o (yielded ops a.tmps)=b:=by
 unfold yK at h
 split at h
 ·rename_i hg
  cases h
  simp[Region.wanted,hg]
 ·rename_i j want hg
  split at h
  ·rename_i d hd
   split at h
   ·rename_i c hc
    cases h
    have hv:=hr.tmps d
    rw[hc] at hv
    generalize hu:a.tmps.getD d undef=u at hv
    cases hv
    have hlt:d < a.tmps.size:=by
     rcases Nat.lt_or_ge d a.tmps.size with h|h
     ·exact h
     ·simp[Array.getD,Nat.not_lt.2 h,undef] at hu
    have hget:a.tmps[d]? =some (.bool c):=by
     rw[Array.getElem?_eq_getElem hlt]
     simp[Array.getD,hlt] at hu
     rw[hu]
    simp only[Region.wanted,hg,yielded,hd,Option.bind_some,hget]
    cases c<;>cases want<;>rfl
   ·rename_i hc
    cases h
    have hv:=hr.tmps d
    rw[hc] at hv
    exact sW hg hd hv
   ·cases h
  ·cases h
theorem vE {r:Option Nat} {n:Nat} {ds:List bH} (hd:(ops.all fun o=>iR ds o n)=true) {F:cO} {Q':Exit→Act→World→Prop}:∀(k:Nat) (listed:Array Bool) (φ:Fr) (M:aI) (μ:Mu) (w:World) (a:Act),eP μ F M w→rY μ F w n φ ds a→
  (∀μ' φ' M' w' a',eB w μ w' μ'→eP μ' F M' w'→rY μ' F w' n φ' ds a'→Q φ' M'→Q' .normal a' w')→
  (∀μ' φ' M' w' a' v u,eB w μ w' μ'→eP μ' F M' w'→rY μ' F w' n φ' ds a'→bR μ' F w' u v→Kp u M'→Q' (.panic [{v,recovered:=false}]) a' w')→
  r7 P ops cls Kp Q k listed φ M→wpAnyIn (B1 r) 9 P .any ops Q' k listed a w:=by
 intro k
 induction k with
 |zero=>intro listed φ M μ w a hg hr hQ hP h;exact⟨h.1,hQ μ φ M w a (eB.refl _ _) hg hr h.2⟩
 |succ k ih=>
  intro listed φ M μ w a hg hr hQ hP h
  refine⟨fun h0=>hQ μ φ M w a (eB.refl _ _) hg hr (h.1 h0),fun i hi=>?_⟩
  have hop:=h.2 i hi
  unfold OH at hop
  unfold wpOpIn
  split
  ·rename_i ho
   simp only[ho] at hop
   exact ih _ φ M μ w a hg hr hQ hP hop
  ·rename_i o ho
   simp only[ho] at hop
   have hdo:=kO ((Array.all_eq_true_iff_forall_mem.1 hd) o (Array.mem_of_getElem? ho))
   have hnd:=YG ((Array.all_eq_true_iff_forall_mem.1 hd) o (Array.mem_of_getElem? ho))
   split at hop
   ·rename_i hw
    rw[K1 hr hw,if_pos rfl]
    refine SC.toI hnd hop r μ F w a hg (fun y _=>hr.ev y) _ _ ?_ ?_
    ·intro μ' M' w' v u e1 e2 e3 e4
     refine ih _ _ M' μ' w' _ e2 ((hr.evo e1).put hdo e3) ?_ ?_ e4
     ·intro μ2 φ2 M2 w2 a2 f1 f2 f3 f4
      exact hQ μ2 φ2 M2 w2 a2 (e1.trans f1) f2 f3 f4
     ·intro μ2 φ2 M2 w2 a2 v2 u2 f1 f2 f3 f4 f5
      exact hP μ2 φ2 M2 w2 a2 v2 u2 (e1.trans f1) f2 f3 f4 f5
    ·intro μ' M' w' v u e1 e2 e3 e4
     exact hP μ' φ M' w' a v u e1 e2 (hr.evo e1) e3 e4
   ·rename_i hw
    rw[K1 hr hw,if_neg (by simp)]
    exact⟨fun _ _=>trivial,ih _ _ M μ w _ hg (hr.put hdo vI) hQ hP hop⟩
   ·exact hop.elim
theorem xR {φ:Fr} {o:Oper} {dst:Option Tmp} {x:AV} (h:∀d,dst=some d→d∉o.looksAt ops):∀y∈o.op.operands,L0 (j4 φ dst x) y=L0 φ y:=by
 intro y hy
 cases dst with
 |none=>rfl
 |some d=>
  cases y with
  |tmp t=>
   simp only[L0,j4]
   rw[if_neg]
   rintro rfl
   refine h t rfl ?_
   unfold Oper.looksAt
   refine List.mem_append.2 (.inl (List.mem_filterMap.2 ⟨.tmp t,by simpa using hy,rfl⟩))
  |_=>rfl
theorem mU {φ:Fr} {o:Oper} {dst:Option Tmp} {x:AV} (h:∀d,dst=some d→d∉o.looksAt ops):yK ops (j4 φ dst x) o=yK ops φ o:=by
 unfold yK
 cases hg:o.guard with
 |none=>rfl
 |some jb=>
  obtain⟨j,b⟩:=jb
  simp only
  cases hd:(ops[j]?).bind (·.dst) with
  |none=>rfl
  |some d=>
   simp only
   cases dst with
   |none=>rfl
   |some d'=>
    simp only[j4]
    rw[if_neg]
    rintro rfl
    refine h d rfl ?_
    unfold Oper.looksAt
    refine List.mem_append.2 (.inr ?_)
    simp only[hg,hd,Option.toList_some,List.mem_singleton]
theorem S7 {φ:Fr} {x y:Option Tmp} (u v:AV) (h:∀d,x=some d→y≠some d):j4 (j4 φ x u) y v=j4 (j4 φ y v) x u:=by
 cases x with
 |none=>rfl
 |some d=>
  cases y with
  |none=>rfl
  |some e=>
   have hne:d≠e:=fun he=>h d rfl (he ▸ rfl)
   funext t
   simp only[j4]
   by_cases h1:t=d<;>by_cases h2:t=e<;>simp[h1,h2]
   ·subst h1;exact absurd h2 hne
   ·subst h1;intro h;exact absurd h hne
   ·subst h2;intro h;exact absurd h.symm hne
def LM:fZ→fZ→Bool
 |.P,_=>true
 |.R,.E=>false
 |.R,.Y=>false
 |.R,_=>true
 |.E,_=>false
 |.Y,_=>false
theorem CD {i:Nat} {oi:Oper} (hi:ops[i]? =some oi) {R:Nat→Bool} (hR:∀j oj,j≠i→ops[j]? =some oj→(∀e∈oj.after,Region.binds .any e=true→R e.on=true)→R j=true):
  ∀(k:Nat) (listed:Array Bool) (φ:Fr) (M:aI),(∀j,listed.getD j false=true→R j=true)→i∈Region.ready .any ops listed→
   (∀j oj,ops[j]? =some oj→j≠i→R j=true→listed.getD j true=false→oi.apart ops oj=true∧LM (cls i) (cls j)=true)→
   OH P ops cls Kp i (r7 P ops cls Kp Q k (listed.setIfInBounds i true)) φ M→r7 P ops cls Kp Q (k+1) listed φ M:=by
 intro k
 induction k with
 |zero=>
  intro listed φ M hl hr hap H
  refine⟨fun h=>(by rw[h] at hr;cases hr),fun j hj=>?_⟩
  by_cases hji:j=i
  ·subst hji;exact H
  ·exfalso
   have hj':=ready_mono hj hji
   obtain⟨hjun,oj,hoj,hall⟩:=mem_ready.1 hj
   have hRj:R j=true:=hR j oj hji hoj fun e he hb=>hl _ (hall e he hb)
   obtain⟨ha,hc⟩:=hap j oj hoj hji hRj hjun
   unfold OH at H
   simp only[hi] at H
   split at H
   ·cases hci:cls i with
    |P=>rw[hci] at H;obtain⟨x,_,h0,_⟩:=H;rw[h0] at hj';cases hj'
    |R=>rw[hci] at H;obtain⟨x,_,h0,_⟩:=H;rw[h0] at hj';cases hj'
    |E=>rw[hci] at hc;cases hc
    |Y=>rw[hci] at hc;cases hc
   ·rw[H.1] at hj';cases hj'
   ·exact H
 |succ k ih=>
  intro listed φ M hl hr hap H
  refine⟨fun h=>(by rw[h] at hr;cases hr),fun j hj=>?_⟩
  by_cases hji:j=i
  ·subst hji;exact H
  ·have hj':=ready_mono hj hji
   obtain⟨hjun,oj,hoj,hall⟩:=mem_ready.1 hj
   have hRj:R j=true:=hR j oj hji hoj fun e he hb=>hl _ (hall e he hb)
   obtain⟨ha,hc⟩:=hap j oj hoj hji hRj hjun
   obtain⟨a1,a2,a3⟩:=Oper.apart_spec ha
   have hl':∀m,(listed.setIfInBounds j true).getD m false=true→R m=true:=by
    intro m hm
    by_cases hmj:j=m
    ·subst hmj;exact hRj
    ·rw[getD_set_ne false hmj] at hm;exact hl m hm
   have hap':∀m om,ops[m]? =some om→m≠i→R m=true→(listed.setIfInBounds j true).getD m true=false→oi.apart ops om=true∧LM (cls i) (cls m)=true:=by
    intro m om hm hmi hRm hun
    refine hap m om hm hmi hRm ?_
    by_cases hmj:j=m
    ·subst hmj;exact hjun
    ·rw[getD_set_ne true hmj] at hun;exact hun
   have hri:i∈Region.ready .any ops (listed.setIfInBounds j true):=ready_mono hr (Ne.symm hji)
   have hcomm:(listed.setIfInBounds j true).setIfInBounds i true=(listed.setIfInBounds i true).setIfInBounds j true:=Array.setIfInBounds_comm _ _ hji
   have hcm:=fun (u v:AV) (φ:Fr)=>S7 (φ:=φ) u v a2
   unfold OH at H
   simp only[hi] at H
   unfold OH
   simp only[hoj]
   split at H
   ·-- i is carried out
    rename_i hwi
    have later:∀(x u:AV) (N:aI),(∀ψ:Fr,(∀y∈oi.op.operands,L0 ψ y=L0 φ y)→SC P oi (cls i) (L0 ψ) N (fun x' M'=>x'=x∧M'=N) (fun _ _=>False)∧X1 (cls i)=true)→
      r7 P ops cls Kp Q k ((listed.setIfInBounds i true).setIfInBounds j true) (j4 (j4 φ oi.dst x) oj.dst u) N→r7 P ops cls Kp Q (k+1) (listed.setIfInBounds j true) (j4 φ oj.dst u) N:=by
     intro x u N hsc hany
     refine ih _ _ N hl' hri hap' ?_
     unfold OH
     simp only[hi]
     rw[mU (ops:=ops) a3,hwi]
     simp only
     obtain⟨h1,h2⟩:=hsc (j4 φ oj.dst u) (xR (ops:=ops) a3)
     refine SC.congr (ρ:=L0 (j4 φ oj.dst u)) ?_ fun _ _=>rfl
     cases hci:cls i with
     |P=>
      rw[hci] at h1
      obtain⟨x',g1,g2,_⟩:=h1
      subst g2
      refine⟨x',g1,?_⟩
      show r7 P ops cls Kp Q k _ (j4 (j4 φ oj.dst u) oi.dst x') N
      rw[hcomm,←hcm]
      exact hany
     |R=>
      rw[hci] at h1
      obtain⟨x',g1,g2,_⟩:=h1
      subst g2
      refine⟨x',g1,?_⟩
      show r7 P ops cls Kp Q k _ (j4 (j4 φ oj.dst u) oi.dst x') N
      rw[hcomm,←hcm]
      exact hany
     |E=>rw[hci] at h2;cases h2
     |Y=>rw[hci] at h2;cases h2
    cases hci:cls i with
    |E=>rw[hci] at hc;cases hc
    |Y=>rw[hci] at hc;cases hc
    |P=>
     rw[hci] at H
     obtain⟨x,g1,g2⟩:=H
     have hj2:=g2.2 j hj'
     unfold OH at hj2
     simp only[hoj] at hj2
     rw[mU (ops:=ops) a1] at hj2
     have hsc:∀(N:aI) (ψ:Fr),(∀y∈oi.op.operands,L0 ψ y=L0 φ y)→SC P oi (cls i) (L0 ψ) N (fun x' M'=>x'=x∧M'=N) (fun _ _=>False)∧X1 (cls i)=true:=by
      intro N ψ hψ
      rw[hci]
      exact⟨⟨x,fun N'=>(g1 N').congr hψ,rfl,rfl⟩,rfl⟩
     split at hj2
     ·rename_i hwj
      refine SC.mono (SC.congr hj2 fun y hy=>(xR (ops:=ops) a1 y hy).symm) fun u N _ hu=>later x u N (hsc N) hu
     ·exact later x (.tup []) M (hsc M) hj2
     ·exact hj2.elim
    |R=>
     rw[hci] at H hc
     obtain⟨x,g1,g2⟩:=H
     have hj2:=g2.2 j hj'
     unfold OH at hj2
     simp only[hoj] at hj2
     rw[mU (ops:=ops) a1] at hj2
     have hsc:∀(ψ:Fr),(∀y∈oi.op.operands,L0 ψ y=L0 φ y)→SC P oi (cls i) (L0 ψ) M (fun x' M'=>x'=x∧M'=M) (fun _ _=>False)∧X1 (cls i)=true:=by
      intro ψ hψ
      rw[hci]
      exact⟨⟨x,g1.congr hψ,rfl,rfl⟩,rfl⟩
     have hne:X1 (cls j)=true:=by
      cases hcj:cls j with
      |P=>rfl
      |R=>rfl
      |E=>rw[hcj] at hc;cases hc
      |Y=>rw[hcj] at hc;cases hc
     split at hj2
     ·rename_i hwj
      refine SC.mono (SC.congr hj2 fun y hy=>(xR (ops:=ops) a1 y hy).symm) fun u N hN hu=>?_
      have:=hN hne
      subst this
      exact later x u _ hsc hu
     ·exact later x (.tup []) M hsc hj2
     ·exact hj2.elim
   ·-- it is passed over
    rename_i hwi
    have hj2:=H.2 j hj'
    unfold OH at hj2
    simp only[hoj] at hj2
    rw[mU (ops:=ops) a1] at hj2
    have later:∀(u:AV) (N:aI),r7 P ops cls Kp Q k ((listed.setIfInBounds i true).setIfInBounds j true) (j4 (j4 φ oi.dst (.tup [])) oj.dst u) N→r7 P ops cls Kp Q (k+1) (listed.setIfInBounds j true) (j4 φ oj.dst u) N:=by
     intro u N hany
     refine ih _ _ N hl' hri hap' ?_
     unfold OH
     simp only[hi]
     rw[mU (ops:=ops) a3,hwi]
     simp only
     rw[hcomm,←hcm]
     exact hany
    split at hj2
    ·refine SC.mono (SC.congr hj2 fun y hy=>(xR (ops:=ops) a1 y hy).symm) fun u N _ hu=>later u N hu
    ·exact later (.tup []) M hj2
    ·exact hj2.elim
   ·exact H.elim
end
end Go.Ab
namespace Go.Ab
open Go.RowKit
structure JP (μ:Mu) (F:cO) (w:World) (l:List AV) (c:Array Value):Prop where
 size:c.size=l.length
 one:∀(i:Nat) (u:Value),c[i]? =some u→u.oneCell'=true
 rep:∀(i:Nat) (y:AV) (u:Value),l[i]? =some y→c[i]? =some u→bR μ F w y u
def tF (place:Nat→Option (Nat×Nat)):List AV→List (Nat×AV)→Option (List AV)
 |l,[]=>some l
 |l,(i,x)::r=>
  match place i with
  |some (o,s)=>if x.solid=true∧x.cells.length=s∧o+s≤l.length then tF place (bA l o x.cells) r else none
  |none=>none
theorem wC (off:Nat):∀(l:List Value) (k:Nat) (cs:Array Value),off+k+l.length≤cs.size→
  let r:=(l.zipIdx k).foldl (fun cs p=>cs.setIfInBounds (off+p.2) p.1) cs
  r.size=cs.size∧∀i,r[i]? =if off+k≤i∧i < off+k+l.length then l[i - (off+k)]? else cs[i]?
 |[],k,cs,h=>⟨rfl,fun i=>by simp;omega⟩
 |v::r,k,cs,h=>by
  simp only[List.zipIdx_cons,List.foldl_cons,List.length_cons] at*
  obtain⟨h1,h2⟩:=wC off r (k+1) (cs.setIfInBounds (off+k) v) (by simp;omega)
  refine⟨by rw[h1];simp,fun i=>?_⟩
  rw[h2]
  by_cases h5:off+(k+1)≤i∧i < off+(k+1)+r.length
  ·rw[if_pos h5,if_pos (by omega)]
   obtain⟨m,rfl⟩:∃m,i=off+(k+1)+m:=⟨i - (off+(k+1)),by omega⟩
   rw[show off+(k+1)+m - (off+(k+1))=m from by omega,show off+(k+1)+m - (off+k)=m+1 from by omega]
   rfl
  ·rw[if_neg h5]
   by_cases h6:i=off+k
   ·subst h6
    rw[if_pos (by omega)]
    have:off+k < cs.size:=by omega
    simp[Array.getElem?_setIfInBounds,this]
   ·rw[if_neg (by omega),Array.getElem?_setIfInBounds_ne (by omega)]
theorem pD {μ:Mu} {F:cO} {w:World} {place placec:Nat→Option (Nat×Nat)} (hp:∀i q,place i=some q→placec i=some q) {ρ:Operand→AV} {ρc:Operand→Value}:
  ∀(ps:List (Nat×Operand)) (l:List AV) (c:Array Value) (l':List AV),JP μ F w l c→(∀p,p∈ps→bR μ F w (ρ p.2) (ρc p.2))→
   tF place l (ps.map fun p=>(p.1,ρ p.2))=some l'→∃c',Instr.fill placec c (ps.map fun p=>(p.1,ρc p.2))=some c'∧JP μ F w l' c'
 |[],l,c,l',hc,_,h=>by
  simp only[List.map_nil,tF,Option.some.injEq] at h
  subst h
  exact⟨c,rfl,hc⟩
 |(i,x)::r,l,c,l',hc,hr,h=>by
  simp only[List.map_cons,tF] at h
  split at h
  case h_2=>cases h
  rename_i o s hpl
  split at h
  case isFalse=>cases h
  rename_i hcond
  obtain⟨h1,h2,h3⟩:=hcond
  have hx:=hr (i,x) List.mem_cons_self
  obtain⟨g1,g2,g3⟩:=mA hx h1
  simp only at g1 g2 g3
  obtain⟨f1,f2⟩:=wC o (ρc x).cells.toList 0 c (by simp[g1,h2,hc.size];omega)
  have hstep:Instr.fill placec c (List.map (fun p=>(p.1,ρc p.2)) ((i,x)::r))=Instr.fill placec ((ρc x).cells.zipIdx.foldl (fun cs p=>cs.setIfInBounds (o+p.2) p.1) c) (r.map fun p=>(p.1,ρc p.2)):=by
   simp only[List.map_cons,Instr.fill,hp i _ hpl]
   rw[if_neg]
   simp[g1,h2,hc.size]
   omega
  rw[hstep,←Array.foldl_toList,Array.toList_zipIdx]
  refine pD hp r (bA l o (ρ x).cells) _ l' ?_ (fun p hp'=>hr p (List.mem_cons_of_mem _ hp')) h
  have hn:(ρc x).cells.toList.length=s:=by rw[Array.length_toList,g1,h2]
  refine⟨by rw[f1,bN,hc.size],?_,?_⟩
  ·intro k u hu
   rw[f2] at hu
   split at hu
   ·exact g2 _ _ (by simpa using hu)
   ·exact hc.one _ _ hu
  ·intro k y u hy hu
   rw[f2] at hu
   rw[fO _ _ _ _ (by rw[h2];exact h3)] at hy
   simp only[Nat.add_zero,hn] at hu
   rw[h2] at hy
   split at hu
   ·rename_i hk
    rw[if_pos hk] at hy
    exact g3 _ _ _ hy (by simpa using hu)
   ·rename_i hk
    rw[if_neg hk] at hy
    exact hc.rep _ _ _ hy hu
theorem KY.zcells {P:Program} {t:TypeId} {i:TI} {f:TypeInfo} {d:TypeDesc} {z:Value} (h:KY P t i f d z) (μ:Mu) (F:cO) (w:World):JP μ F w i.zero z.cells:=by
 obtain⟨hl,hc⟩:=bZ h.cells
 refine⟨by simpa using hl,?_,?_⟩
 ·intro j u hu
  have hj:j < i.zero.length:=by
   rw[←hl]
   have:=(Array.getElem?_eq_some_iff.1 hu).1
   simpa using this
  obtain⟨rfl,hp⟩:=hc j u _ (by simpa using hu) (List.getElem?_eq_getElem hj)
  exact pV hp
 ·intro j y u hy hu
  obtain⟨rfl,hp⟩:=hc j u y (by simpa using hu) hy
  exact x9 _ _ _ hp
def L5 (τ:Tab) (t:TypeId) (j:Nat):Option (Nat×Nat):=match fieldAt τ t j with|some (o,fi)=>some (o,fi.size)|none=>none
def vW (size i:Nat):Option (Nat×Nat):=some (i*size,size)
def MD (τ:Tab) (t:TypeId) (ps:List (Nat×AV)):Option AV:=
 match aK τ t with
 |some i=>
  match i.k with
  |.struct fs=>if (fs.all fun p=>(aK τ p.2).isSome)=true then (match tF (L5 τ t) i.zero ps with|some l=>some (.agg l)|none=>none) else none
  |.array _ e=>(match aK τ e with|some ei=>(match tF (vW ei.size) i.zero ps with|some l=>some (.agg l)|none=>none)|none=>none)
  |_=>none
 |none=>none
theorem TL {P:Program} {τ:Tab} (hτ:TabOK P τ) {t:TypeId} {ps:Array (Nat×Operand)} {ty:TypeId} {ρ:Operand→AV} {r:AV} (h:MD τ t (ps.toList.map fun p=>(p.1,ρ p.2))=some r):jY P (.build t ps) ty ρ r:=by
 refine b8 ?_
 intro μ F w ρc o ho ht hr
 have hrp:∀p,p∈ps.toList→bR μ F w (ρ p.2) (ρc p.2):=by
  intro p hp
  refine hr p.2 ?_
  simp only[Op.operands]
  rw[List.mem_toArray,List.mem_map]
  exact⟨p,hp,rfl⟩
 unfold MD at h
 split at h
 case h_2=>cases h
 rename_i i hi
 obtain⟨f,d,z,H⟩:=TI.spec hτ hi
 have hfit:=H.fits
 have hz:=H.zcells μ F w
 have hzr:(zeroValue t).run P w=.ok z w:=by simp[zeroValue,typeInfo,H.info,H.zero]
 have hpm:(ps.map fun p=>(p.1,ρc p.2)).toList=ps.toList.map fun p=>(p.1,ρc p.2):=by simp
 split at h
 ·rename_i fs hk
  split at h
  case isFalse=>cases h
  rename_i hall
  split at h
  case h_2=>cases h
  rename_i l hl
  cases h
  rw[hk] at hfit
  cases d<;>simp[TK.fits] at hfit
  rename_i gs
  subst hfit
  have hall':∀g∈gs.toList,∃gi,aK τ g.type=some gi:=by
   intro g hg
   have:=(List.all_eq_true.1 hall) (g.offset,g.type) (List.mem_map.2 ⟨g,hg,rfl⟩)
   exact Option.isSome_iff_exists.1 this
  have hmap:(gs.mapM fun f=>(do pure (f.offset,←sizeOf f.type):Sem (Nat×Nat))).run P w=.ok (gs.map fun f=>(f.offset,P.cellsOf f.type)) w:=by
   rw[Array.mapM_eq_mapM_toList]
   have:∀(l:List Field),(∀g∈l,∃gi,aK τ g.type=some gi)→(l.mapM fun f=>(do pure (f.offset,←sizeOf f.type):Sem (Nat×Nat))).run P w=.ok (l.map fun f=>(f.offset,P.cellsOf f.type)) w:=by
    intro l
    induction l with
    |nil=>intro _;simp
    |cons g r ih=>
     intro hl
     obtain⟨gi,hgi⟩:=hl g List.mem_cons_self
     obtain⟨gf,gd,gz,HG⟩:=TI.spec hτ hgi
     have h1:=ih fun g' hg'=>hl g' (List.mem_cons_of_mem _ hg')
     simp only[List.mapM_cons,Sem.run_bind,run_sizeOf w HG.info,Result.andThen_ok,Sem.run_pure,h1,List.map_cons]
   have h1:=this gs.toList hall'
   simp only[Sem.run_map,h1,Result.andThen_ok]
   congr 1
   apply Array.ext'
   simp
  obtain⟨c',hc',hcells⟩:=pD (μ:=μ) (F:=F) (w:=w) (place:=L5 τ t) (placec:=fun j=>(gs.map fun f=>(f.offset,P.cellsOf f.type))[j]?) (ρ:=ρ) (ρc:=ρc) (by
   intro j q hq
   unfold L5 at hq
   split at hq
   case h_2=>cases hq
   rename_i o' fi hfa
   cases hq
   obtain⟨fs',g,ff,fd,fz,hu,hj,hoff,HF⟩:=kE hτ hfa
   rw[H.und] at hu
   cases hu
   simp[hj,hoff,HF.cellsOf]) ps.toList i.zero z.cells l hz hrp hl
  refine⟨.agg c',?_,.agg _ _ hcells.size hcells.rep hcells.one⟩
  simp only[execOp,ho,Instr.build,Sem.run_bind,hzr,Result.andThen_ok,run_underlying H.und,hmap,hpm,hc',Sem.run_pure]
 ·rename_i n e hk
  split at h
  case h_2=>cases h
  rename_i ei hei
  split at h
  case h_2=>cases h
  rename_i l hl
  cases h
  obtain⟨fe,de,ze,HE⟩:=TI.spec hτ hei
  rw[hk] at hfit
  cases d<;>simp[TK.fits] at hfit
  obtain⟨rfl,rfl⟩:=hfit
  obtain⟨c',hc',hcells⟩:=pD (μ:=μ) (F:=F) (w:=w) (place:=vW ei.size) (placec:=fun i=>some (i*ei.size,ei.size)) (ρ:=ρ) (ρc:=ρc) (fun i q hq=>hq) ps.toList i.zero z.cells l hz hrp hl
  refine⟨.agg c',?_,.agg _ _ hcells.size hcells.rep hcells.one⟩
  simp only[execOp,ho,Instr.build,Sem.run_bind,hzr,Result.andThen_ok,run_underlying H.und,run_sizeOf w HE.info,HE.cellsOf,hpm,hc',Sem.run_pure]
 ·cases h
end Go.Ab
namespace Go.Ab
open Go.RowKit
def kW {α:Type}:List (Nat×α)→Nat→Bool
 |[],_=>true
 |(i,_)::r,k=>i==k&&kW r (k+1)
def iK (s:Nat):List AV→Bool
 |[]=>true
 |x::r=>x.solid&&decide (x.cells.length=s)&&iK s r
theorem lX {s:Nat}:∀{l:List AV},iK s l=true→∀x,x∈l→x.solid=true∧x.cells.length=s
 |[],_,x,hx=>by cases hx
 |y::r,h,x,hx=>by
  simp only[iK,Bool.and_eq_true,decide_eq_true_eq] at h
  cases hx with
  |head=>exact h.1
  |tail _ hx=>exact lX h.2 x hx
theorem wS:∀(a b c d:List AV),b.length=d.length→bA (a++b++c) a.length d=a++d++c
 |[],b,c,d,h=>by
  simp only[List.nil_append,List.length_nil]
  induction b generalizing d with
  |nil=>
   cases d with
   |nil=>cases c<;>rfl
   |cons _ _=>cases h
  |cons x b ih=>
   cases d with
   |nil=>cases h
   |cons y d=>simp only[List.cons_append,bA];rw[ih d (by simpa using h)]
 |x::a,b,c,d,h=>by
  have:=wS a b c d h
  simp only[List.cons_append,List.length_cons,bA]
  rw[this]
theorem rX (s:Nat):∀(ps:List (Nat×AV)) (k:Nat) (pre:List AV),pre.length=k*s→kW ps k=true→(∀p,p∈ps→p.2.solid=true∧p.2.cells.length=s)→
  tF (vW s) (pre++List.replicate (ps.length*s) .top) ps=some (pre++b9 (ps.map (·.2)))
 |[],k,pre,_,_,_=>by simp[tF,b9]
 |(i,x)::r,k,pre,hp,hi,hs=>by
  simp only[kW,Bool.and_eq_true,beq_iff_eq] at hi
  obtain⟨rfl,hi⟩:=hi
  have hx:=hs (i,x) List.mem_cons_self
  simp only at hx
  have h1:List.replicate (((i,x)::r).length*s) AV.top=List.replicate s .top++List.replicate (r.length*s) .top:=by
   rw[List.length_cons,Nat.succ_mul,Nat.add_comm,List.replicate_append_replicate]
  simp only[tF,vW]
  rw[if_pos ⟨hx.1,hx.2,by simp[hp,Nat.succ_mul]⟩,h1,←List.append_assoc,←hp,wS pre _ _ _ (by simp[hx.2])]
  rw[rX s r (i+1) (pre++x.cells) (by rw[List.length_append,hp,hx.2,Nat.succ_mul]) hi fun p hp'=>hs p (List.mem_cons_of_mem _ hp')]
  simp[b9]
theorem zF {P:Program} {τ:Tab} (hτ:TabOK P τ) {t e:TypeId} {ti ei:TI} (ht:aK τ t=some ti) (hk:ti.k=.slice e) (he:aK τ e=some ei) (hpos:0 < ei.size) {n:Nat} {ps:Array (Nat×Operand)} {ty:TypeId} {ρ:Operand→AV}
  (hn:ps.size=n) (hidx:kW ps.toList 0=true) (hsz:iK ei.size (ps.toList.map fun p=>ρ p.2)=true) (hbig:n*ei.size≤16777216):
  jY P (.buildSlice t n ps) ty ρ (.sl ei.size (ps.toList.map fun p=>ρ p.2) .full):=by
 intro μ F w ρc o hf ho hty hr
 obtain⟨ft,dt,zt,HT⟩:=TI.spec hτ ht
 obtain⟨fe,de,ze,HE⟩:=TI.spec hτ he
 have hfit:=HT.fits
 rw[hk] at hfit
 have hdd:dt=.slice e:=by
  cases dt<;>simp[TK.fits] at hfit
  rw[hfit]
 subst hdd
 have hrp:∀p,p∈ps.toList→bR μ F w (ρ p.2) (ρc p.2):=by
  intro p hp
  refine hr p.2 ?_
  simp only[Op.operands]
  rw[List.mem_toArray,List.mem_map]
  exact⟨p,hp,rfl⟩
 have hsp:=lX hsz
 have hzc:=HE.zcells μ F w
 have hzs:ze.cells.size=ei.size:=by rw[hzc.size,HE.len]
 let z0:Array Value:=(Array.range (n*ei.size)).map fun k=>ze.cells[k%ze.cells.size]!
 have hz0:JP μ F w (List.replicate (n*ei.size) .top) z0:=by
  refine⟨by simp[z0],?_,?_⟩
  ·intro i u hu
   have hi:i < n*ei.size:=by
    have:=(Array.getElem?_eq_some_iff.1 hu).1
    simpa [z0] using this
   have hm:i%ze.cells.size < ze.cells.size:=Nat.mod_lt _ (by omega)
   simp only[z0,Array.getElem?_map,Array.getElem?_range,hi,if_true,Option.map_some,Option.some.injEq] at hu
   rw[getElem!_pos ze.cells _ hm] at hu
   exact hzc.one _ u (by rw[Array.getElem?_eq_getElem hm,hu])
  ·intro i y u hy hu
   rw[List.getElem?_replicate] at hy
   split at hy<;>cases hy
   exact .top _
 have hlen:(ps.toList.map fun p=>(p.1,ρ p.2)).length=n:=by simp[hn]
 have hfull:=rX ei.size (ps.toList.map fun p=>(p.1,ρ p.2)) 0 [] (by simp) (by
  have:∀(l:List (Nat×Operand)) (k:Nat),kW l k=true→kW (l.map fun p=>(p.1,ρ p.2)) k=true:=by
   intro l
   induction l with
   |nil=>intro k _;rfl
   |cons p r ih=>
    intro k h
    simp only[kW,List.map_cons,Bool.and_eq_true] at h ⊢
    exact⟨h.1,ih _ h.2⟩
  exact this _ _ hidx) (by
  intro p hp
  obtain⟨q,hq,rfl⟩:=List.mem_map.1 hp
  exact hsp _ (List.mem_map.2 ⟨q,hq,rfl⟩))
 rw[hlen,List.nil_append,List.nil_append,List.map_map] at hfull
 obtain⟨c',hc',hcells⟩:=pD (μ:=μ) (F:=F) (w:=w) (place:=vW ei.size) (placec:=fun i=>some (i*ei.size,ei.size)) (ρ:=ρ) (ρc:=ρc) (fun i q hq=>hq) ps.toList _ z0 _ hz0 hrp hfull
 have hb:=j6 w (.cells c' e)
 have hnew:({w with heap:=w.heap.push (.cells c' e)}:World).heap[w.heap.size]? =some (.cells c' e (0,0)):=by simp
 have hpm:(ps.map fun p=>(p.1,ρc p.2)).toList=ps.toList.map fun p=>(p.1,ρc p.2):=by simp
 have hxl:(ps.toList.map fun p=>ρ p.2).length=n:=by simp[hn]
 refine⟨.slice (some ⟨w.heap.size,0,none⟩) n n,_,?_,hb,?_⟩
 ·have hze:(zeroValue e).run P w=.ok ze w:=by simp[zeroValue,typeInfo,HE.info,HE.zero]
  simp only[execOp,ho,Instr.buildSlice,Sem.run_bind,run_underlying HT.und,Result.andThen_ok,run_sizeOf w HE.info,HE.cellsOf]
  rw[if_neg (by simpa using hbig)]
  by_cases h0:n*ei.size=0
  ·rw[if_pos h0]
   have hz':(Array.range (n*ei.size)).map (fun k=>(#[]:Array Value)[k%(#[]:Array Value).size]!)=z0:=by simp[z0,h0]
   simp only[Sem.run_bind,Sem.run_pure,Result.andThen_ok,hz',hpm,hc']
   simp[newRow]
  ·rw[if_neg h0]
   simp only[Sem.run_bind,hze,Sem.run_pure,Result.andThen_ok]
   have hz':(Array.range (n*ei.size)).map (fun k=>ze.cells[k%ze.cells.size]!)=z0:=rfl
   simp only[hz',hpm,hc']
   simp[newRow]
 ·have hR:=s8 (μ:=μ) (F:=F) (w:={w with heap:=w.heap.push (.cells c' e)}) (sz:=ei.size) (xs:=ps.toList.map fun p=>ρ p.2) (t:=.full) (A:=some ⟨w.heap.size,0,none⟩) (cap:=n) (b:=w.heap.size) (o:=0) (vals:=fun p=>c'.getD p undef)
   (fun x hx=>(hsp x hx).2) (by rw[hxl];exact Nat.le_refl _) (fun _=>rfl) (by
    intro p c hc
    have hc2:(b9 (ps.toList.map fun p=>ρ p.2))[p]? =some c:=hc
    have hp:p < c'.size:=by
     rw[hcells.size]
     exact (List.getElem?_eq_some_iff.1 hc2).1
    have hval:c'[p]? =some (c'.getD p undef):=by simp[Array.getD,hp]
    refine⟨hcells.one p _ hval,by rw[Nat.zero_add,cR hnew];exact hval,hf.new (Nat.le_refl _),(hcells.rep p c _ hc2 hval).later hb⟩) (by simp[nY,hn])
  rw[hxl] at hR
  exact hR
def sB (x:Option AV) (d:Nat):Option Int:=
 match x with
 |none=>some d
 |some (.int _ n)=>some n
 |_=>none
theorem dM {P:Program} {w:World} {k:IntKind} {i:Int} {y:Nat} {code:BoundsCode} (h0:0≤i) (h1:i≤y):(Instr.sliceBound (.int k i) y code).run P w=.ok i.toNat w:=by
 simp[Instr.sliceBound,asIntOf,h0,h1]
theorem kX {P:Program} {w:World} {isS:Bool} {n m:Nat} {L H:Option Value} {l h:Int} (hL:(L=none∧l=0)∨∃k,L=some (.int k l)) (hH:(H=none∧h=n)∨∃k,H=some (.int k h)) (h0:0≤l) (h1:l≤h) (h2:h≤m):
  (Instr.sliceBounds isS n m L H none).run P w=.ok (l.toNat,h.toNat,m) w:=by
 have a1:0≤h:=by omega
 have a2:l≤((h.toNat:Nat):Int):=by omega
 rcases hL with ⟨rfl,rfl⟩|⟨k,rfl⟩<;>rcases hH with ⟨rfl,rfl⟩|⟨k',rfl⟩
 ·simp[Instr.sliceBounds]
 ·simp[Instr.sliceBounds,dM a1 h2]
 ·simp only[Int.toNat_natCast] at a2
  simp[Instr.sliceBounds,dM h0 a2]
 ·simp[Instr.sliceBounds,dM a1 h2,dM h0 a2]
theorem iO {μ:Mu} {F:cO} {w:World} {ρ:Operand→AV} {ρc:Operand→Value} {X:Option Operand} {d:Nat} {l:Int} (h:sB (X.map ρ) d=some l) (hr:∀x,X=some x→bR μ F w (ρ x) (ρc x)):
  (X.map ρc=none∧l=d)∨∃k,X.map ρc=some (.int k l):=by
 cases X with
 |none=>
  simp[sB] at h
  exact .inl ⟨rfl,h.symm⟩
 |some x=>
  have hy:=hr x rfl
  simp only[Option.map_some] at h ⊢
  generalize ρc x=u at hy ⊢
  cases hρ:ρ x with
  |int k m=>
   rw[hρ] at h hy
   simp only[sB,Option.some.injEq] at h
   subst h
   cases hy
   exact .inr ⟨k,rfl⟩
  |_=>rw[hρ] at h;simp[sB] at h
theorem O5 {P:Program} {τ:Tab} (hτ:TabOK P τ) {t:TypeId} {ti:TI} (ht:aK τ t=some ti) (hk:ti.k=.str) {X:Operand} {L H:Option Operand} {ty:TypeId} {ρ:Operand→AV} {s:List UInt8} {l h:Int}
  (hX:ρ X=.str s) (hL:sB (L.map ρ) 0=some l) (hH:sB (H.map ρ) s.length=some h) (h0:0≤l) (h1:l≤h) (h2:h≤s.length):
  jY P (.slice t X L H none) ty ρ (.str ((s.take h.toNat).drop l.toNat)):=by
 refine b8 ?_
 intro μ F w ρc o ho hty hr
 have hx:=hr X (by simp[Op.operands])
 rw[hX] at hx
 generalize hv:ρc X=v at hx
 cases hx
 obtain⟨ft,dt,zt,HT⟩:=TI.spec hτ ht
 have hf:=HT.fits
 rw[hk] at hf
 have hdd:dt=.string:=by
  cases dt<;>simp[TK.fits] at hf
  rfl
 subst hdd
 have hb:(Instr.sliceBounds false (⟨s.toArray⟩:ByteArray).size (⟨s.toArray⟩:ByteArray).size (L.map ρc) (H.map ρc) none).run P w=.ok (l.toNat,h.toNat,s.length) w:=by
  rw[oZ]
  exact kX (iO hL fun x hx=>hr x (by simp[Op.operands,hx])) (iO hH fun x hx=>hr x (by simp[Op.operands,hx])) h0 h1 h2
 refine⟨_,?_,.str _⟩
 simp only[execOp,ho,hv,Instr.sliceAt,Sem.run_bind,run_underlying HT.und,Result.andThen_ok,Instr.slice,Option.map_none,Option.isSome_none,Bool.false_eq_true,if_false,Sem.run_pure,hb]
 congr 3
 have:((⟨s.toArray⟩:ByteArray).extract l.toNat h.toNat).data=((s.take h.toNat).drop l.toNat).toArray:=by
  apply Array.ext'
  simp[ByteArray.data_extract,List.drop_take]
 cases hE:(⟨s.toArray⟩:ByteArray).extract l.toNat h.toNat
 rw[hE] at this
 simp only at this
 rw[this]
theorem TC {P:Program} {τ:Tab} (hτ:TabOK P τ) {t e:TypeId} {ti ei:TI} (ht:aK τ t=some ti) (hk:ti.k=.slice e) (he:aK τ e=some ei) {X:Operand} {L H:Option Operand} {ty:TypeId} {ρ:Operand→AV} {sz:Nat} {xs:List AV} {tg:eI} {l h:Int}
  (hX:ρ X=.sl sz xs tg) (hL:sB (L.map ρ) 0=some l) (hH:sB (H.map ρ) xs.length=some h) (h0:0≤l) (h1:l≤h) (h2:h≤xs.length) (hsz:sz=ei.size):
  jY P (.slice t X L H none) ty ρ (.sl sz ((xs.take h.toNat).drop l.toNat) .none):=by
 refine b8 ?_
 intro μ F w ρc o ho hty hr
 have hx:=hr X (by simp[Op.operands])
 rw[hX] at hx
 generalize hv:ρc X=v at hx
 obtain⟨A,cap,ad,vals,rfl,hs,hcap,hA,hone,hcell,hrep,htag⟩:=hx.sl_inv
 obtain⟨ft,dt,zt,HT⟩:=TI.spec hτ ht
 obtain⟨fe,de,ze,HE⟩:=TI.spec hτ he
 have hf:=HT.fits
 rw[hk] at hf
 have hdd:dt=.slice e:=by
  cases dt<;>simp[TK.fits] at hf
  rw[hf]
 subst hdd
 have hb:=kX (P:=P) (w:=w) (isS:=true) (n:=xs.length) (m:=cap) (iO (d:=0) hL fun x hx=>hr x (by simp[Op.operands,hx])) (iO hH fun x hx=>hr x (by simp[Op.operands,hx])) h0 h1 (by omega)
 obtain⟨ln,rfl⟩:=Int.eq_ofNat_of_zero_le h0
 obtain⟨hn,rfl⟩:=Int.eq_ofNat_of_zero_le (show 0≤h by omega)
 simp only[Int.toNat_natCast] at hb ⊢
 have hlen:((xs.take hn).drop ln).length=hn - ln:=by simp;omega
 have hget:∀(i:Nat) (x:AV),((xs.take hn).drop ln)[i]? =some x→xs[ln+i]? =some x:=by
  intro i x hx
  rw[List.getElem?_drop,List.getElem?_take] at hx
  split at hx
  ·exact hx
  ·cases hx
 refine⟨.slice (if cap=ln then A else A.map (·.add (ln*sz))) ((xs.take hn).drop ln).length (cap - ln),?_,?_⟩
 ·simp only[execOp,ho,hv,Instr.sliceAt,Sem.run_bind,run_underlying HT.und,Result.andThen_ok,Instr.slice,Option.map_none,hb,run_sizeOf w HE.info,HE.cellsOf,Sem.run_pure,hlen,hsz]
 ·have hsh:∀i j:Nat,ln*sz+(i*sz+j)=(ln+i)*sz+j:=fun i j=>by rw[Nat.add_mul,Nat.add_assoc]
  refine .sl _ _ _ _ _ ⟨ad.block,ad.off+ln*sz,none⟩ (fun p=>vals (ln*sz+p)) ?_ (by rw[hlen];omega) ?_ ?_ ?_ ?_ trivial
  ·intro x hx
   exact hs x (List.mem_of_mem_take (List.mem_of_mem_drop hx))
  ·intro h3
   rw[hlen] at h3
   obtain⟨h4,h5⟩:=hA (by omega)
   rw[if_neg (by omega),h4]
   refine⟨?_,rfl⟩
   obtain⟨bb,oo,ss⟩:=ad
   simp only at h5
   subst h5
   simp[Addr.add_lit]
  ·intro i x j c hx hj
   show (vals _).oneCell'=true
   rw[hsh]
   exact hone _ _ _ _ (hget i x hx) hj
  ·intro i x j c hx hj
   have:=hcell _ _ _ _ (hget i x hx) hj
   simp only
   rw[Nat.add_assoc,hsh]
   exact this
  ·intro i x j c hx hj
   show bR _ _ _ _ (vals _)
   rw[hsh]
   exact hrep _ _ _ _ (hget i x hx) hj
theorem rS {P:Program} {τ:Tab} (hτ:TabOK P τ) {t:TypeId} {ix:AV} {n:Nat} {ei:TI} (h:JM τ t ix=some (n,ei)):
  ∃k i len e fe de ze,ix=.int k i∧P.underlying t=some (.array len e)∧0≤i∧i < len∧n=i.toNat∧KY P e ei fe de ze:=by
 unfold JM at h
 split at h
 case h_2=>cases h
 rename_i ti k i hi
 split at h
 case h_2=>cases h
 rename_i len e hk
 split at h
 case h_2=>cases h
 rename_i ei' hei
 split at h
 case isFalse=>cases h
 rename_i hb
 cases h
 obtain⟨f,d,z,H⟩:=TI.spec hτ hi
 obtain⟨fe,de,ze,HE⟩:=TI.spec hτ hei
 have hf:=H.fits
 rw[hk] at hf
 have hdd:d=.array len e:=by
  cases d<;>simp[TK.fits] at hf
  rw[hf.1,hf.2]
 subst hdd
 exact⟨k,i,len,e,fe,de,ze,rfl,H.und,hb.1,hb.2,rfl,HE⟩
theorem DK {P:Program} {t e:TypeId} {len:Nat} {i:Int} {k:IntKind} {ei:TI} {fe:TypeInfo} {de:TypeDesc} {ze:Value} (hu:P.underlying t=some (.array len e)) (h0:0≤i) (h1:i < len) (HE:KY P e ei fe de ze) (w:World) (b o:Nat):
  (Instr.indexAt t (.pointer (some ⟨b,o,none⟩)) (.int k i)).run P w=.ok (.pointer (some ⟨b,o+i.toNat*ei.size,none⟩)) w:=by
 simp[Instr.indexAt,asIntOf,run_underlying hu,Instr.sureAddr,h0,h1,run_sizeOf w HE.info,HE.cellsOf,Addr.add_lit]
def a5t (τ:Tab) (t:TypeId) (x ix:AV):Option AV:=
 match x,JM τ t ix with
 |.ref cells,some (n,ei)=>some (.ref (cells.drop (n*ei.size)))
 |_,_=>none
theorem a11 {P:Program} {τ:Tab} (hτ:TabOK P τ) {t:TypeId} {x ix:Operand} {ty:TypeId} {ρ:Operand→AV} {r:AV} (h:a5t τ t (ρ x) (ρ ix)=some r):jY P (.indexAddr t x ix) ty ρ r:=by
 refine b8 ?_
 intro μ F w ρc o ho hty hr
 have hx:=hr x (by simp[Op.operands])
 have hi:=hr ix (by simp[Op.operands])
 unfold a5t at h
 split at h
 case h_2=>cases h
 rename_i cells n ei e ha
 cases h
 obtain⟨k,i,len,el,fe,de,ze,hix,hu,h0,h1,rfl,HE⟩:=rS hτ ha
 rw[hix] at hi
 generalize hvi:ρc ix=vi at hi
 cases hi
 rw[e] at hx
 obtain⟨b,off,hv⟩:=iI hx
 rw[hv] at hx
 refine⟨_,?_,H7 hx _⟩
 simp[execOp,ho,hv,hvi,DK hu h0 h1 HE]
def VO (M:aI) (τ:Tab) (t:TypeId) (x ix:AV):Option AV:=
 match x with
 |.ptr id off=>(match M.get id,JM τ t ix with|some (.cells _),some (n,ei)=>some (.ptr id (off+n*ei.size))|_,_=>none)
 |_=>none
theorem a18 {P:Program} {τ:Tab} (hτ:TabOK P τ) {t:TypeId} {x ix:Operand} {ty:TypeId} {ρ:Operand→AV} {M:aI} {r:AV} (h:VO M τ t (ρ x) (ρ ix)=some r):x7 P (.indexAddr t x ix) ty ρ M r:=by
 intro μ F w ρc o hg ho hty hr
 have hx:=hr x (by simp[Op.operands])
 have hi:=hr ix (by simp[Op.operands])
 unfold VO at h
 split at h
 case h_2=>cases h
 rename_i id off e
 split at h
 case h_2=>cases h
 rename_i l n ei hM ha
 cases h
 obtain⟨k,i,len,el,fe,de,ze,hix,hu,h0,h1,rfl,HE⟩:=rS hτ ha
 rw[hix] at hi
 generalize hvi:ρc ix=vi at hi
 cases hi
 rw[e] at hx
 obtain⟨b,c,tb,hm,hv,_⟩:=pO hg hM hx
 refine⟨.pointer (some ⟨b,off+i.toNat*ei.size,none⟩),w,?_,Below.refl _ _,?_⟩
 ·simp[execOp,ho,hv,hvi,DK hu h0 h1 HE]
 ·exact .ptr _ _ _ rfl (by rw[hm];simp) (fun b' hb'=>by rw[hm] at hb';cases hb';rfl)
theorem N4 {P:Program} {xt yt:TypeId} {x y:Operand} {ty:TypeId} {ρ:Operand→AV} {a b:List UInt8} (hx:ρ x=.str a) (hy:ρ y=.str b) (hl:a.length+b.length≤9223372036854775807):jY P (.binOp .add xt x y yt) ty ρ (.str (a++b)):=by
 refine b8 ?_
 intro μ F w ρc o ho hty hr
 have h1:=hr x (by simp[Op.operands])
 have h2:=hr y (by simp[Op.operands])
 rw[hx] at h1
 rw[hy] at h2
 generalize hvx:ρc x=vx at h1
 generalize hvy:ρc y=vy at h2
 cases h1
 cases h2
 refine⟨_,?_,.str _⟩
 have hne:¬(((⟨a.toArray⟩:ByteArray).size+(⟨b.toArray⟩:ByteArray).size:Nat):Int) > IntKind.i64.max:=by
  rw[oZ,oZ]
  have:IntKind.i64.max=9223372036854775807:=by decide
  rw[this]
  omega
 simp only[execOp,ho,hvx,hvy,eqGuard,binOp,Op.stringOp,Sem.run_bind,Sem.run_pure,Result.andThen_ok]
 rw[if_neg hne]
 simp only[Sem.run_pure,Result.andThen_ok]
 congr 3
end Go.Ab
