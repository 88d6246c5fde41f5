/- Parts of the proof, one behind the other. No further condition. -/
import Derived.Test.YteliblifgdofgaaGreatDoorK06
import Derived.Laws.BytesString
import Derived.Lib.ConvBytes
import Derived.Laws.AppendOwn
import Derived.Recover
import Derived.Scope
import Derived.Laws.Externs
import Derived.Laws.MakeOwn
set_option linter.unusedVariables false
set_option linter.unusedSimpArgs false
set_option maxRecDepth 100000
set_option maxHeartbeats 8000000
namespace Go.Ab
open Go.RowKit
theorem w5:∀(l:List UInt8) (acc:ByteArray),(l.map fun c=>(c.toNat:Int)).foldl (fun r n=>r.push (UInt8.ofNat n.toNat)) acc=⟨(acc.data.toList++l).toArray⟩
 |[],acc=>by simp
 |c::l,acc=>by
  rw[List.map_cons,List.foldl_cons,w5 l]
  simp[ByteArray.push]
theorem a3l {P:Program} {τ:Tab} (hτ:TabOK P τ) {s d e:TypeId} {si di ei:TI} (hs:aJ τ s=some si) (hks:si.k=.slice e) (he:aJ τ e=some ei) (hke:ei.k=.int .u8) (hd:aJ τ d=some di) (hkd:di.k=.str)
  {x:Operand} {ty:TypeId} {ρ:Operand→AV} {l:List UInt8} {tag:eE} (hx:ρ x=.sl 1 (l.map gH) tag):jF P (.convert s d x) ty ρ (.str l):=by
 refine b7 ?_
 intro μ F w ρc o ho ht hr
 have h1:=hr x (by simp[Op.operands])
 rw[hx] at h1
 obtain⟨A,cap,ad,vals,hv,hsz,hcap,hA,hone,hcell,hrep,_⟩:=h1.sl_inv
 obtain⟨fs,ds,zs,HS⟩:=TI.spec hτ hs
 obtain⟨fd,dd,zd,HD⟩:=TI.spec hτ hd
 obtain⟨fe,de,ze,HE⟩:=TI.spec hτ he
 have f1:=HS.fits
 have f2:=HD.fits
 have f3:=HE.fits
 rw[hks] at f1
 rw[hkd] at f2
 rw[hke] at f3
 cases ds<;>simp[TK.fits] at f1
 cases dd<;>simp[TK.fits] at f2
 cases de<;>simp[TK.fits] at f3
 subst f1
 subst f3
 have hu1:=HS.und
 have hu2:=HD.und
 have hu3:=HE.und
 have hlen:(l.map gH).length=l.length:=by simp
 rw[hlen] at hv hA
 refine⟨.string ⟨l.toArray⟩,?_,.str l⟩
 have hconv:=run_convert_bytes_string w s d e A l.length cap hu1 hu3 hu2
 have hb2s:(Conv.bytesToString (.slice A l.length cap)).run P w=.ok (.string ⟨l.toArray⟩) w:=by
  by_cases h0:l=[]
  ·subst h0
   cases A with
   |none=>simp[Conv.bytesToString];rfl
   |some a=>
    have:=run_bytesToString (P:=P) w a 0 cap [] (by simp[loadCells,loadCellsFrom])
    exact this
  ·have hpos:0 < l.length:=List.length_pos_iff.2 h0
   obtain⟨rfl,hsp⟩:=hA hpos
   obtain⟨ab,ao,ags⟩:=ad
   simp only at hsp
   subst hsp
   have hl:=run_loadCells (P:=P) w ⟨ab,ao,none⟩ l.length (fun j=>.int .u8 ((l.getD j 0).toNat)) (fun j hj=>by
    have e1:(l.map gH)[j]? =some (gH (l.getD j 0)):=by simp[List.getD,hj]
    have hc:=(hcell j _ 0 _ e1 rfl).1
    have hr2:=hrep j _ 0 _ e1 rfl
    rw[Addr.add_lit]
    simp only[Nat.mul_one,Nat.add_zero] at hc hr2
    rw[hc]
    generalize vals j=u at hr2
    cases hr2
    rfl)
   have hl2:(loadCells ⟨ab,ao,none⟩ l.length).run P w=.ok ((l.map fun c=>(c.toNat:Int)).map (Value.int .u8)).toArray w:=by
    rw[hl]
    congr 2
    apply List.ext_getElem?
    intro i
    by_cases hi:i < l.length
    ·simp[hi,List.getD]
    ·simp[hi,List.getElem?_eq_none (Nat.le_of_not_lt hi)]
   have:=run_bytesToString (P:=P) w ⟨ab,ao,none⟩ l.length cap _ hl2
   rw[w5] at this
   simpa using this
 rw[hb2s] at hconv
 simp[execOp,ho,hv,hconv]
section
variable {P:Program} {τ:Tab} {ops:Array Oper} {cls:Nat→fQ} {Q:AX→AF→aG→Prop} {ds:List bJ} {l:List Nat} {i:Nat} {o:Oper} {t:List (Nat×AV)} {M:aG}
end
end Go.Ab
namespace Go.Ab
open Go.RowKit
section
variable {P:Program} {n:Nat} {Q:AX→AF→aG→Prop} {f:AF} {M:aG}
theorem a07 {c:Code} (h:W none P n c Q f M):W none P n (.scope c) Q f M:=by
 refine⟨fun μ F w a hg hr=>(wpIn_wide (n:=9)).2 (wp_scope_straight (wp_mono (yM (h.run μ F w a hg hr)) ?_))⟩
 rintro e a' w' ⟨μ',f',M',x,h1,h2,h3,h4,h5⟩
 cases e with
 |goto l=>cases x<;>exact h4.elim
 |outgrown=>cases x<;>exact h4.elim
 |_=>exact⟨μ',f',M',x,h1,h2,h3,h4,h5⟩
theorem a2a {r:Option Nat} {l:Nat} (h:Q .normal f M):W r P n (.label l) Q f M:=
 ⟨fun μ F w a hg hr=>wpIn_label ⟨μ,f,M,.normal,dQ.refl _ _,hg,hr,trivial,h⟩⟩
end
def EB (τ:Tab) (ags:TypeId) (x:AV):Option AV:=
 match aJ τ ags with
 |some i=>if sV i.k=true∧(i.agg=true∨i.size=1) then
   (match x with
   |.iface t v=>if t=ags then some (.tup [v,.bool true]) else some (.tup [i.zv,.bool false])
   |.nilIface=>some (.tup [i.zv,.bool false])
   |_=>none)
  else none
 |none=>none
theorem AK {μ:Mu} {F:c8} {w:World} {x y:AV} {u v:Value} (h1:bP μ F w x u) (h2:bP μ F w y v):bP μ F w (.tup [x,y]) (.tuple #[u,v]):=by
 have h:=(cN.cons h1).app (cN.cons h2)
 exact .tup _ _ rfl fun i a b ha hb=>h.2 i a b ha (by simpa using hb)
theorem M8 {P:Program} {τ:Tab} (hτ:TabOK P τ) {ags xt:TypeId} {x:Operand} {ty:TypeId} {ρ:Operand→AV} {r:AV} (h:EB τ ags (ρ x)=some r):jF P (.typeAssert x xt ags true) ty ρ r:=by
 refine b7 ?_
 intro μ F w ρc o ho ht hr
 have hx:=hr x (by simp[Op.operands])
 unfold EB at h
 split at h
 case h_2=>cases h
 rename_i i hi
 split at h
 case isFalse=>cases h
 rename_i hn
 obtain⟨hn1,hn2⟩:=hn
 obtain⟨fi,d,z,H⟩:=TI.spec hτ hi
 have hf:=H.fits
 have hz:(zeroValue ags).run P w=.ok z w:=by simp[zeroValue,typeInfo,H.info,H.zero]
 have hzr:=H.zrep hn2 μ F w
 have hd:∀m,d≠.interface m:=by
  intro m e
  subst e
  generalize i.k=kk at hf hn1
  cases kk<;>simp[TK.fits,sV] at hf hn1
 generalize hv:ρc x=v at hx
 split at h
 ·rename_i t y he
  rw[he] at hx
  cases hx with
  |iface _ _ u hu=>
   split at h
   ·rename_i e
    cases h
    subst e
    refine⟨.tuple #[u,.bool true],?_,AK hu (.bool _)⟩
    simp only[execOp,ho,hv,Sem.run_bind,Instr.typeAssert,run_underlying H.und,Result.andThen_ok]
    cases d<;>first|exact absurd rfl (hd _)|simp
   ·rename_i e
    cases h
    refine⟨.tuple #[z,.bool false],?_,AK hzr (.bool _)⟩
    simp only[execOp,ho,hv,Sem.run_bind,Instr.typeAssert,run_underlying H.und,Result.andThen_ok]
    cases d<;>first|exact absurd rfl (hd _)|simp[e,hz]
 ·rename_i he
  rw[he] at hx
  cases hx
  cases h
  refine⟨.tuple #[z,.bool false],?_,AK hzr (.bool _)⟩
  simp only[execOp,ho,hv,Sem.run_bind,Instr.typeAssert,run_underlying H.und,Result.andThen_ok]
  cases d<;>first|exact absurd rfl (hd _)|simp[hz]
 ·cases h
theorem c4 {P:Program} {τ:Tab} (hτ:TabOK P τ) {ops:Array Oper} {cls:Nat→fQ} {Q:AX→AF→aG→Prop} {ds:List bJ} {l:List Nat} {i:Nat} {o:Oper} {t:List (Nat×AV)} {M:aG} {d:Nat} (hi:ops[i]? =some o) (hw:aT ops ⟨t,ds⟩ o=some true) (hd:o.dst=some d)
  {ags xt:TypeId} {x:Operand} (ho:o.op=.typeAssert x xt ags true) {r:AV} (hr:EB τ ags (AF.ev ⟨t,ds⟩ x)=some r) (h:DW P ops cls Q ds l ((d,r)::t) M):DW P ops cls Q ds (i::l) t M:=
 fR hi hw hd (by rw[ho];exact M8 hτ hr) h
theorem eQ {P:Program} {n:Nat} {ops:Array Oper} {Q:AX→AF→aG→Prop} {rest:List Oper} {o:Oper} {f:AF} {M:aG} (hw:aT ops f o=some true) {x:Operand} {ags:Array Operand} {ts:Array TypeId}
  (ho:o.op=.defer {callee:=.value x,args:=ags,argTypes:=ts}) (hd:o.dst=none) {g:FuncId} {fi ca:List AV} (hx:f.ev x=.fn (.func g) fi ca) (kp:List (Nat×AV)) (hk:∀p,p∈kp→f.get p.1=p.2)
  (h:WL none P n ops Q rest ⟨f.t,{f:=.func g,cap:=ca,args:=fi++ags.toList.map f.ev,keep:=kp}::f.d⟩ M):WL none P n ops Q (o::rest) f M:=by
 intro μ F w a hg hr Q' hQ
 unfold wpListIn
 rw[iN hr hw,if_pos rfl]
 have hv:=hr.ev x
 rw[hx] at hv
 obtain⟨c1,c2,he,hs1,hs2,h1,h2⟩:=hv.fn_inv
 have hargs:cN μ F w (ags.toList.map f.ev) (ags.map a.eval):=cN.map fun y _=>hr.ev y
 have hrun:(execOp a.eval o).run P w=.ok (.defer {target:=.fn (.func g) c2,args:=c1++ags.map a.eval}) w:=by
  simp[execOp,ho,resolve,he,Deferred.ofValue]
 refine⟨fun _ _=>trivial,?_⟩
 show o.uponIn (xR none) 9 P a _ Q' ((execOp a.eval o).run P w)
 rw[hrun]
 simp only[Oper.uponIn,hd,Act.put]
 refine h μ F w {a with defers:={target:=.fn (.func g) c2,args:=c1++ags.map a.eval}::a.defers} hg ⟨hr.size,hr.tmps,?_,?_⟩ Q' hQ
 ·show E5 _ _ _ _ _∧fM _ _ _ _ _
  exact⟨⟨fun _=>⟨c2,rfl,⟨hs2,h2⟩⟩,cN.app ⟨hs1,h1⟩ hargs,fun y hy=>by cases hy⟩,hr.defs⟩
 intro p hp
 simp only[dD,List.mem_append] at hp
 rcases hp with hp|hp
 ·have:=hr.tmps p.1
  rw[hk p hp] at this
  exact this
 ·exact hr.kept p hp
inductive kE where
 |ret
 |pan (x:AV)
def kY (μ:Mu) (F:c8) (w:World):kE→FrameMode→Prop
 |.ret,u=>u=.returning
 |.pan x,u=>∃v,u=.panicking [{v,recovered:=false}]∧bP μ F w x v
theorem kY.run {μ:Mu} {F:c8} {w:World} {m:kE} {u:FrameMode} (h:kY μ F w m u):u≠.run:=by
 cases m with
 |ret=>rw[show u=.returning from h];simp
 |pan x=>obtain⟨v,rfl,_⟩:=h;simp
def bF (P:Program) (g:FuncId) (args:List AV) (m:kE) (M:aG) (R:kE→aG→Prop):Prop:=
 jM P g∧∀(μ:Mu) (F:c8) (w:World) (vs:Array Value) (u:FrameMode),dY μ F M w→cN μ F w args vs→kY μ F w m u→
  CallsD P g vs u w fun e u' w'=>(∃v,e=.returned v)∧∃μ' M' m',dQ w μ w' μ'∧dY μ' F M' w'∧kY μ' F w' m' (settle u')∧R m' M'
def eF (P:Program) (τ:Tab) (fn:Func) (f:AF) (R:cH→aG→Prop):List bJ→kE→aG→Prop
 |[],.ret,M=>∃r,i5 τ M f fn.results=some r∧R (.ret r) M
 |[],.pan x,M=>R (.pan x) M
 |d::ds,m,M=>d.mark=none∧∃g,d.f=.func g∧bF P g (d.args++d.cap) m M fun m' M'=>eF P τ fn f R ds m' M'
def j5 (F:c8) (μ0:Mu) (w0:World) (R:cH→aG→Prop):Ending→World→Prop:=fun e w'=>∃μ' M',dQ w0 μ0 w' μ'∧dY μ' F M' w'∧
 match e with
 |.returned v=>∃x,bP μ' F w' x v∧R (.ret x) M'
 |.panicked ch=>∃x v,ch=[{v,recovered:=false}]∧bP μ' F w' x v∧R (.pan x) M'
 |.outgrown=>False
theorem oW {P:Program} {τ:Tab} (hτ:TabOK P τ) {fn:Func} {n:Nat} {t:List (Nat×AV)} {R:cH→aG→Prop} {F:c8} {μ0:Mu} {w0:World} {tmps:Array Value}:
  ∀(ds:List bJ) (rs:List Deferred) (m:kE) (M:aG) (μ:Mu) (w:World) (u:FrameMode),eF P τ fn ⟨t,[]⟩ R ds m M→dQ w0 μ0 w μ→dY μ F M w→gX μ F w n ⟨t,[]⟩ {tmps:=tmps,defers:=[]}→fM μ F w ds rs→kY μ F w m u→
   Leaves P fn tmps (j5 F μ0 w0 R) rs u w
 |[],[],.ret,M,μ,w,u,h,he,hg,hr,_,hm=>by
  rw[show u=.returning from hm]
  obtain⟨r,h1,h2⟩:=h
  obtain⟨v,hv,hrep⟩:=jA (P:=P) hτ hg hr h1
  exact⟨v,hv,μ,M,he,hg,r,hrep,h2⟩
 |[],[],.pan x,M,μ,w,u,h,he,hg,hr,_,hm=>by
  obtain⟨v,rfl,hx⟩:=hm
  exact⟨μ,M,he,hg,x,v,rfl,hx,h⟩
 |[],_::_,_,_,_,_,_,_,_,_,_,hd,_=>hd.elim
 |_::_,[],_,_,_,_,_,_,_,_,_,hd,_=>hd.elim
 |d::ds,r::rs,m,M,μ,w,u,h,he,hg,hr,hd,hm=>by
  obtain⟨hmk,g,hfg,hcall⟩:=h
  obtain⟨⟨h0,h3,_⟩,hds⟩:=hd
  obtain⟨c,h1,h2⟩:=h0 hmk
  obtain⟨tgt,args⟩:=r
  simp only at h1 h3
  subst h1
  rw[hfg]
  have hall:cN μ F w (d.args++d.cap) (args++c):=h3.app h2
  refine leaves_cons (f:=g) (args:=args++c) hm.run (by simp[invoke,jV hcall.1]) ?_
  refine (hcall.2 μ F w _ u hg hall hm).mono ?_
  rintro e u' w' ⟨⟨v,rfl⟩,μ',M',m',e1,e2,e3,e4⟩
  exact oW hτ ds rs m' M' μ' w' (settle u') e4 (he.trans e1) e2 (hr.evo e1) (hds.evo e1) e3
def a3r (P:Program) (τ:Tab) (fn:Func) (R:cH→aG→Prop):AX→AF→aG→Prop
 |.normal,f,M|.ret,f,M=>eF P τ fn ⟨f.t,[]⟩ R f.d .ret M
 |.panic v,f,M=>eF P τ fn ⟨f.t,[]⟩ R f.d (.pan v) M
 |.exit _,_,_=>False
theorem fC {P:Program} {τ:Tab} (hτ:TabOK P τ) {g:FuncId} {fn:Func} {c:Code} (hf:P.funcs[g]? =some fn) (hb:fn.body=some c) (hn:fn.name≠ "runtime.NumGoroutine") {args:List AV} {M:aG} {R:cH→aG→Prop}
  (hlen:args.length≤fn.ntmps) (h:W none P fn.ntmps c (a3r P τ fn R) (pW args) M):aQ P g args M R:=by
 refine⟨⟨fn,c,hf,hb,hn⟩,fun μ F w vs hg hv=>?_⟩
 refine (calls_of_wp_defers (R:=j5 F μ w R) hf hb ?_).mono (fun e w' hp=>hp)
 refine wp_mono (yM (h.run μ F w _ hg (lI hlen hv))) ?_
 rintro e a' w' ⟨μ',f',M',x,h1,h2,h3,h4,h5⟩
 have hr:gX μ' F w' fn.ntmps ⟨f'.t,[]⟩ {tmps:=a'.tmps,defers:=[]}:=⟨h3.size,h3.tmps,trivial,fun p hp=>by cases hp⟩
 cases e with
 |normal=>
  cases x<;>first|exact h4.elim|skip
  exact oW hτ _ _ _ _ _ _ _ h5 h1 h2 hr h3.defs rfl
 |exit id=>cases x<;>first|exact h4.elim|exact h5.elim
 |goto l=>cases x<;>exact h4.elim
 |ret=>
  cases x<;>first|exact h4.elim|skip
  exact oW hτ _ _ _ _ _ _ _ h5 h1 h2 hr h3.defs rfl
 |panic ch=>
  cases x<;>first|exact h4.elim|skip
  obtain⟨v,rfl,hrep⟩:=h4
  exact oW hτ _ _ _ _ _ _ _ h5 h1 h2 hr h3.defs ⟨v,rfl,hrep⟩
 |outgrown=>cases x<;>exact h4.elim
end Go.Ab
namespace Go.Ab
open Go.RowKit
theorem ET {P:Program} {ops:Array Oper} {Qs:Exit→Act→List Frame→World→Prop} {o:Oper} {a:Act} {cs:List Frame} {w:World} {rest:List Nat} (h:o.wp P a w (fun a' w'=>wpOpsS P ops Qs rest a' cs w') (fun e a' w'=>Qs e a' cs w')):
  (match (execOp a.eval o).run P w with
   |.ok .recover w'=>(match recoverD cs with
    |some (v,cs')=>wpOpsS P ops Qs rest (a.put o.dst v) cs' w'
    |none=>wpOpsS P ops Qs rest (a.put o.dst .nilIface) cs w')
   |r=>o.upon P a (fun a' w'=>wpOpsS P ops Qs rest a' cs w') (fun e a' w'=>Qs e a' cs w') r):=by
 unfold Oper.wp at h
 generalize (execOp a.eval o).run P w=r at h
 split
 ·exact h.elim
 ·exact h
theorem dwS {P:Program} {n:Nat} {ops:Array Oper} {QA:AX→AF→aG→Prop} {ds:List bJ} {Qs:Exit→Act→List Frame→World→Prop} (hd:(ops.all fun o=>jB ds o n)=true):∀(rest:List Oper) (k:Nat) (t:List (Nat×AV)) (M:aG),(∀j,rest[j]? =ops[k+j]?)→
  LH P ops (fun _=>.E) QA ds (List.range' k rest.length) t M→∀(μ:Mu) (F:c8) (w:World) (a:Act) (cs:List Frame),dY μ F M w→gX μ F w n ⟨t,ds⟩ a→(∀e a' w',JF n QA μ F w e a' w'→Qs e a' cs w')→
  wpOpsS P ops Qs (List.range' k rest.length) a cs w
 |[],k,t,M,_,h,μ,F,w,a,cs,hg,hr,hQ=>hQ _ _ _ ⟨μ,⟨t,ds⟩,M,.normal,dQ.refl _ _,hg,hr,trivial,h⟩
 |o::rest,k,t,M,hl,h,μ,F,w,a,cs,hg,hr,hQ=>by
  have h0:ops[k]? =some o:=by simpa using (hl 0).symm
  have hl':∀j,rest[j]? =ops[k+1+j]? :=fun j=>by have:=hl (j+1);simpa [Nat.add_assoc,Nat.add_comm 1 j] using this
  have hdo:=iQ ((Array.all_eq_true_iff_forall_mem.1 hd) o (Array.mem_of_getElem? h0))
  simp only[List.length_cons,List.range'_succ] at h ⊢
  unfold LH at h
  simp only[h0] at h
  unfold wpOpsS
  simp only[h0]
  split at h
  ·rename_i hw
   have hww:=iN hr hw
   rw[hww]
   simp only[if_true]
   refine ET (h μ F w a hg (fun y _=>hr.ev y) _ _ ?_ ?_)
   ·intro μ' M' w' v u e1 e2 e3 e4
    have hput:AF.put ⟨t,ds⟩ o.dst u=⟨(AF.put ⟨t,ds⟩ o.dst u).t,ds⟩:=by cases o.dst<;>rfl
    have hrf:=(hr.evo e1).put hdo e3
    rw[hput] at hrf
    exact dwS hd rest (k+1) _ M' hl' e4 μ' F w' _ cs e2 hrf fun e a' w'' hp=>hQ _ _ _ (hp.trans e1)
   ·intro μ' M' w' v u e1 e2 e3 e4
    exact hQ _ _ _ ⟨μ',⟨dD ds,ds⟩,M',.panic u,e1,e2,⟨(hr.evo e1).size,rN (hr.evo e1).kept,(hr.evo e1).defs,(hr.evo e1).kept⟩,⟨v,rfl,e3⟩,e4⟩
  ·rename_i hw
   have hww:=iN hr hw
   rw[hww]
   simp only[Bool.false_eq_true,if_false]
   have hput:AF.put ⟨t,ds⟩ o.dst (.tup [])=⟨(AF.put ⟨t,ds⟩ o.dst (.tup [])).t,ds⟩:=by cases o.dst<;>rfl
   have hrf:=hr.put (v:=undef) hdo uW
   rw[hput] at hrf
   exact dwS hd rest (k+1) _ M hl' h μ F w _ cs hg hrf hQ
  ·exact h.elim
def kE.val:kE→AV
 |.ret=>.nilIface
 |.pan x=>x
def QD (τ:Tab) (fn:Func) (R:aG→Prop):AX→AF→aG→Prop
 |.normal,f,M|.ret,f,M=>f.d=[]∧(∃r,i5 τ M f fn.results=some r)∧R M
 |_,_,_=>False
theorem bX {P:Program} {τ:Tab} (hτ:TabOK P τ) {g:FuncId} {fn:Func} {id:Nat} {ops:Array Oper} {c2:Code} (hf:P.funcs[g]? =some fn) (hb:fn.body=some (.seq (.region id ops false) c2)) (hn:fn.name≠ "runtime.NumGoroutine")
  {o0:Oper} {rest:List Oper} (hops:ops.toList=o0::rest) {ags:Array Operand} {ts:Array TypeId} (ho:o0.op=.call {callee:=.builtin .recover,args:=ags,argTypes:=ts}) (hgd:o0.guard=none) {d:Nat} (hdst:o0.dst=some d)
  (hd:(ops.toList.all fun o=>jB [] o fn.ntmps)=true) {args:List AV} {m:kE} {M:aG} {R:aG→Prop} (hlen:args.length≤fn.ntmps)
  (h:DW P ops (fun _=>.E) (sK (fun f M=>W none P fn.ntmps c2 (QD τ fn R) f M) (QD τ fn R)) [] (List.range' 1 rest.length) ((d,m.val)::(pW args).t) M):bF P g args m M (fun m' M'=>m'=.ret∧R M'):=by
 refine⟨⟨fn,_,hf,hb,hn⟩,fun μ F w vs u hg hv hm=>?_⟩
 refine callsD_of_wpS hf hb fun c₀ cs hu=>?_
 have hd':(ops.all fun o=>jB [] o fn.ntmps)=true:=by rw[←Array.all_toList];exact hd
 have hsz:ops.size=rest.length+1:=by rw[←Array.length_toList,hops];rfl
 have h0:ops[0]? =some o0:=by rw[←Array.getElem?_toList,hops];rfl
 have hl:∀j,rest[j]? =ops[1+j]? :=fun j=>by rw[←Array.getElem?_toList,hops,Nat.add_comm];rfl
 have hdo:=iQ ((Array.all_eq_true_iff_forall_mem.1 hd') o0 (Array.mem_of_getElem? h0))
 refine wpS_seq (wpS_region ?_)
 rw[List.range_eq_range',hsz,List.range'_succ]
 have hini:=lI (μ:=μ) (F:=F) (w:=w) (n:=fn.ntmps) hlen hv
 generalize hact:({tmps:=vs++Array.replicate (fn.ntmps - vs.size) undef,defers:=[]}:Act)=act at hini
 have hrun:(execOp act.eval o0).run P w=.ok .recover w:=by
  simp[execOp,ho,resolve,invoke,builtin]
 unfold wpOpsS
 simp only[h0]
 have hw:Region.wanted o0 (yielded ops act.tmps)=true:=by simp[Region.wanted,hgd]
 rw[if_pos hw,hrun]
 simp only
 obtain⟨v,u2,hrec,hrep,hset⟩:∃(v:Value) (u2:FrameMode),(match recoverD (c₀::cs) with
   |some (v',cs')=>v'=v∧cs'={c₀ with mode:=u2}::cs
   |none=>v=.nilIface∧({c₀ with mode:=u2}:Frame)=c₀)∧bP μ F w m.val v∧settle u2=.returning:=by
  cases m with
  |ret=>
   have hu':u=.returning:=hm
   refine⟨.nilIface,.returning,?_,.nilIface,rfl⟩
   have:c₀.mode=.returning:=hu.trans hu'
   simp only[recoverD,this]
   refine⟨trivial,?_⟩
   cases c₀
   simp only at this
   subst this
   rfl
  |pan x=>
   obtain⟨v,rfl,hx⟩:=hm
   refine⟨v,.panicking [{v,recovered:=true}],?_,hx,rfl⟩
   simp only[recoverD,hu]
   exact⟨trivial,trivial⟩
 have fin:∀(fr:List Frame),fr={c₀ with mode:=u2}::cs→wpOpsS P ops (Exit.thenS (c2.wpS P (bodyPostS P fn c₀ cs fun e u' w'=>(∃v,e=.returned v)∧∃μ' M' m',dQ w μ w' μ'∧dY μ' F M' w'∧kY μ' F w' m' (settle u')∧m'=.ret∧R M'))
   (bodyPostS P fn c₀ cs fun e u' w'=>(∃v,e=.returned v)∧∃μ' M' m',dQ w μ w' μ'∧dY μ' F M' w'∧kY μ' F w' m' (settle u')∧m'=.ret∧R M')) (List.range' (0+1) rest.length) (act.put o0.dst v) fr w:=by
  intro fr hfr
  subst hfr
  have hput:AF.put (pW args) o0.dst m.val=⟨(d,m.val)::(pW args).t,[]⟩:=by simp[AF.put,hdst,pW]
  have hrf:=hini.put hdo hrep
  rw[hput] at hrf
  have last:∀(e:Exit) (a':Act) (w':World),JF fn.ntmps (QD τ fn R) μ F w e a' w'→bodyPostS P fn c₀ cs (fun e u' w'=>(∃v,e=.returned v)∧∃μ' M' m',dQ w μ w' μ'∧dY μ' F M' w'∧kY μ' F w' m' (settle u')∧m'=.ret∧R M') e a' ({c₀ with mode:=u2}::cs) w':=by
   rintro e a' w' ⟨μ',f',M',x,h1,h2,h3,h4,h5⟩
   cases e with
   |normal=>
    cases x<;>first|exact h4.elim|skip
    obtain⟨k1,⟨r,k2⟩,k3⟩:=h5
    obtain⟨v',hv',_⟩:=jA (P:=P) hτ h2 h3 k2
    have hdd:=h3.defs
    rw[k1] at hdd
    exact⟨fN hdd,u2,rfl,v',hv',⟨v',rfl⟩,μ',M',.ret,h1,h2,hset,rfl,k3⟩
   |ret=>
    cases x<;>first|exact h4.elim|skip
    obtain⟨k1,⟨r,k2⟩,k3⟩:=h5
    obtain⟨v',hv',_⟩:=jA (P:=P) hτ h2 h3 k2
    have hdd:=h3.defs
    rw[k1] at hdd
    exact⟨fN hdd,u2,rfl,v',hv',⟨v',rfl⟩,μ',M',.ret,h1,h2,hset,rfl,k3⟩
   |exit id=>cases x<;>first|exact h4.elim|exact h5.elim
   |goto l=>cases x<;>exact h4.elim
   |panic ch=>cases x<;>first|exact h4.elim|exact h5.elim
   |outgrown=>cases x<;>exact h4.elim
  refine dwS hd' rest 1 _ M hl h.run μ F w _ _ hg hrf ?_
  rintro e a' w' ⟨μ',f',M',x,h1,h2,h3,h4,h5⟩
  cases e with
  |normal=>
   cases x<;>first|exact h4.elim|skip
   refine wpS_of_wp (wp_mono (yM (h5.run μ' F w' a' h2 h3)) ?_)
   intro e' a'' w'' hp
   exact last e' a'' w'' (hp.trans h1)
  |exit id=>cases x<;>first|exact h4.elim|exact h5.elim
  |goto l=>cases x<;>exact h4.elim
  |ret=>
   cases x<;>first|exact h4.elim|skip
   exact last .ret a' w' ⟨μ',f',M',.ret,h1,h2,h3,trivial,h5⟩
  |panic ch=>cases x<;>first|exact h4.elim|exact h5.elim
  |outgrown=>cases x<;>exact h4.elim
 split at hrec
 ·rename_i v' cs' hr2
  obtain⟨rfl,rfl⟩:=hrec
  simp only[hact,hr2]
  exact fin _ rfl
 ·rename_i hr2
  obtain⟨rfl,e⟩:=hrec
  simp only[hact,hr2]
  exact fin _ (by rw[e])
theorem bF.mono {P:Program} {g:FuncId} {args:List AV} {m:kE} {M:aG} {R R':kE→aG→Prop} (h:bF P g args m M R) (hr:∀m M,R m M→R' m M):bF P g args m M R':=by
 refine⟨h.1,fun μ F w vs u hg hv hm=>(h.2 μ F w vs u hg hv hm).mono ?_⟩
 rintro e u' w' ⟨h1,μ',M',m',h2,h3,h4,h5⟩
 exact⟨h1,μ',M',m',h2,h3,h4,hr _ _ h5⟩
theorem bF.le {P:Program} {g:FuncId} {args:List AV} {m:kE} {M N:aG} {R:kE→aG→Prop} (hM:N.le M) (h:bF P g args m N R):bF P g args m M R:=
 ⟨h.1,fun μ F w vs u hg hv hm=>h.2 μ F w vs u (hg.le hM) hv hm⟩
end Go.Ab
namespace Go.Ab
open Go.RowKit
def a75 (P:Program) (g:FuncId) (args:List AV) (r:AV):Prop:=
 ∀(μ:Mu) (F:c8) (w:World) (vs:Array Value),cN μ F w args vs→∃v,(callFunc g vs).run P w=.ok (.value v) w∧bP μ F w r v
theorem EU {P:Program} {x:Operand} {ags:Array Operand} {ts:Array TypeId} {ty:TypeId} {ρ:Operand→AV} {g:FuncId} {r:AV} (hx:ρ x=.fn (.func g) [] []) (h:a75 P g (ags.toList.map ρ) r):
  jF P (.call {callee:=.value x,args:=ags,argTypes:=ts}) ty ρ r:=by
 refine b7 ?_
 intro μ F w ρc o ho ht hr
 have hv:=hr x (by simp[Op.operands,Call.operands])
 rw[hx] at hv
 obtain⟨c1,c2,he,hs1,hs2,f1,f2⟩:=hv.fn_inv
 have e1:c1=#[]:=by simpa using hs1
 have e2:c2=#[]:=by simpa using hs2
 subst e1
 subst e2
 have hargs:cN μ F w (ags.toList.map ρ) (ags.map ρc):=cN.map fun y hy=>hr y (by simp[Op.operands,Call.operands,hy])
 obtain⟨v,h1,h2⟩:=h μ F w _ hargs
 refine⟨v,?_,h2⟩
 simp[execOp,ho,resolve,he,Deferred.ofValue,invoke,h1]
theorem a7d {P:Program} {ops:Array Oper} {cls:Nat→fQ} {Q:AX→AF→aG→Prop} {ds:List bJ} {l:List Nat} {i:Nat} {o:Oper} {t:List (Nat×AV)} {M:aG} {d:Nat} (hi:ops[i]? =some o) (hw:aT ops ⟨t,ds⟩ o=some true) (hd:o.dst=some d)
  {y:Operand} {ags:Array Operand} {ts:Array TypeId} (ho:o.op=.call {callee:=.value y,args:=ags,argTypes:=ts}) {g:FuncId} (hx:AF.ev ⟨t,ds⟩ y=.fn (.func g) [] []) {x:AV} (hc:a75 P g (ags.toList.map (AF.ev ⟨t,ds⟩)) x)
  (h:DW P ops cls Q ds l ((d,x)::t) M):DW P ops cls Q ds (i::l) t M:=
 fR hi hw hd (by rw[ho];exact EU hx hc) h
end Go.Ab
namespace Go.Ab
open Go.RowKit
theorem eK {μ:Mu} {F:c8} {M:aG} {w:World} (hg:dY μ F M w) {id off n cap sz:Nat} {l:List AV} (hM:M.get id=some (.cells l)) {v:Value} (hr:bP μ F w (.osl id off n cap sz) v):
  ∃b,μ id=some (.at b)∧v=.slice (some ⟨b,off,none⟩) n cap:=by
 obtain⟨b,c,ty,h1,h2,h3,h4,h5⟩:=hg.obj id l hM
 cases hr with
 |osl _ _ _ _ _ _ h1' h hv=>exact⟨b,h1,hv b h1⟩
theorem YN {P:Program} {τ:Tab} (hτ:TabOK P τ) {t:TypeId} {ti:TI} (ht:aJ τ t=some ti) {e:TypeId} (hk:ti.k=.slice e) {x:Operand} {ty:TypeId} {ρ:Operand→AV} {M:aG} {id off n cap sz:Nat} {l:List AV}
  (hx:ρ x=.osl id off n cap sz) (hM:M.get id=some (.cells l)):wR P (.call {callee:=.builtin .len,args:=#[x],argTypes:=#[t]}) ty ρ M (.int .i64 n):=by
 intro μ F w ρc o hg ho hty hr
 have h1:=hr x (by simp[Op.operands,Call.operands])
 rw[hx] at h1
 obtain⟨b,hb,hv⟩:=eK hg hM h1
 obtain⟨f,d,z,H⟩:=TI.spec hτ ht
 have hf:=H.fits
 rw[hk] at hf
 cases d<;>simp[TK.fits] at hf
 have hu:=H.und
 exact⟨_,w,by simp[execOp,ho,resolve,invoke,builtin,Builtin.len_,hv,run_underlying hu,goInt],Below.refl _ _,.int _ _⟩
theorem zW {P:Program} {τ:Tab} (hτ:TabOK P τ) {t e:TypeId} {ti ei:TI} (ht:aJ τ t=some ti) (hk:ti.k=.slice e) (he:aJ τ e=some ei) {X I:Operand} {ty:TypeId} {ρ:Operand→AV} {M:aG} {id off n cap sz:Nat} {l:List AV}
  {k:IntKind} {i:Int} (hX:ρ X=.osl id off n cap sz) (hM:M.get id=some (.cells l)) (hI:ρ I=.int k i) (h0:0≤i) (hin:i < n) (hsz:sz=ei.size):wR P (.indexAddr t X I) ty ρ M (.ptr id (off+i.toNat*sz)):=by
 intro μ F w ρc o hg ho hty hr
 have hx:=hr X (by simp[Op.operands])
 have hi:=hr I (by simp[Op.operands])
 rw[hX] at hx
 rw[hI] at hi
 obtain⟨b,hb,hv⟩:=eK hg hM hx
 generalize hvi:ρc I=vi at hi
 cases hi
 obtain⟨ft,dt,zt,HT⟩:=TI.spec hτ ht
 obtain⟨fe,de,ze,HE⟩:=TI.spec hτ he
 have hf:=HT.fits
 rw[hk] at hf
 have hdd:dt=.slice e:=by
  cases dt<;>simp[TK.fits] at hf
  rw[hf]
 subst hdd
 refine⟨.pointer (some ⟨b,off+i.toNat*sz,none⟩),w,?_,Below.refl _ _,.ptr _ _ _ rfl (by rw[hb];simp) (fun b' hb'=>by rw[hb] at hb';cases hb';rfl)⟩
 simp only[execOp,ho,hv,hvi,Instr.indexAt,asIntOf,Sem.run_bind,Sem.run_pure,Result.andThen_ok,run_underlying HT.und]
 rw[if_pos ⟨h0,by omega⟩]
 simp[run_sizeOf w HE.info,HE.cellsOf,HE.size,hsz,Addr.add_lit]
end Go.Ab
namespace Go.Ab
open Go.RowKit
def aG.drop (M:aG) (id:Nat):aG:=⟨M.next,M.objs.filter fun p=>!(p.1==id)⟩
theorem aG.get_drop (M:aG) (id i:Nat):(M.drop id).get i=if i=id then none else M.get i:=by
 unfold aG.drop aG.get
 simp only
 generalize M.objs=l
 induction l with
 |nil=>simp[aJ]
 |cons p r ih=>
  obtain⟨k,v⟩:=p
  by_cases h:k=id
  ·subst h
   simp only[List.filter_cons,beq_self_eq_true,Bool.not_true,Bool.false_eq_true,if_false,ih,aJ]
   by_cases h2:i=k
   ·simp[h2]
   ·simp[h2]
  ·have:(k==id)=false:=by simpa using h
   simp only[List.filter_cons,this,Bool.not_false,if_true,aJ,ih]
   by_cases h2:i=k
   ·subst h2;simp[h]
   ·simp[h2]
theorem GR {μ:Mu} {F:c8} {M:aG} {w:World} (hg:dY μ F M w) {id b:Nat} {l:List AV} (hM:M.get id=some (.cells l)) (hb:μ id=some (.at b)):
  ∃μ2:Mu,μ2 M.next=some (.at b)∧dQ w μ w μ2∧∀N:aG,N.next=M.next+1→(∀i,N.get i=if i=M.next then some (.cells l) else if i=id then none else M.get i)→dY μ2 F N w:=by
 have hn:=lH hg
 have hid:id < M.next:=(hg.dom id).1 (by rw[hb];simp)
 let μ2:Mu:=fun i=>if i=M.next then some (.at b) else if i=id then some .dead else μ i
 have hnew:μ2 M.next=some (.at b):=by simp[μ2]
 have hlies:∀i k,dH μ2 i k→(i=M.next∧k=b)∨(i≠M.next∧i≠id∧dH μ i k):=by
  rintro i k (h1|⟨e,g,h1⟩)
  ·simp only[μ2] at h1
   split at h1
   ·rename_i e;cases h1;exact .inl ⟨e,rfl⟩
   ·split at h1
    ·cases h1
    ·rename_i e1 e2;exact .inr ⟨e1,e2,.inl h1⟩
  ·simp only[μ2] at h1
   split at h1
   ·cases h1
   ·split at h1
    ·cases h1
    ·rename_i e1 e2;exact .inr ⟨e1,e2,.inr ⟨e,g,h1⟩⟩
 have hown:∀k o,jG μ2 k o→jG μ k o:=by
  rintro k o ⟨i,h1|⟨e,g,h1,he⟩⟩
  ·simp only[μ2] at h1
   split at h1
   ·cases h1;exact⟨id,.inl hb⟩
   ·split at h1
    ·cases h1
    ·exact⟨i,.inl h1⟩
  ·simp only[μ2] at h1
   split at h1
   ·cases h1
   ·split at h1
    ·cases h1
    ·exact⟨i,.inr ⟨e,g,h1,he⟩⟩
 have hev:dQ w μ w μ2:=by
  refine⟨rfl,rfl,rfl,Nat.le_refl _,?_,fun _ _ _=>rfl,fun k e c ty fr _ _ hc=>⟨c,fr,hc,rfl,fun _ _=>rfl⟩,fun k o _ ho=>hown k o ho⟩
  intro i hi
  have h1:i≠M.next:=by rintro rfl;exact hi hn
  simp only[μ2,if_neg h1]
  split
  ·exact .inr (.inl rfl)
  ·exact .inl rfl
 refine⟨μ2,hnew,hev,fun N hN hget=>?_⟩
 refine {dom:=?_,obj:=?_,spare:=?_,inj:=?_,frm:=fun k o ho=>hg.frm k o (hown k o ho),fit:=⟨fun k o ho=>hg.fit.own k o (hown k o ho),hg.fit.frm⟩,raw:=?_}
 ·intro i
  rw[hN]
  simp only[μ2]
  split
  ·rename_i e;subst e;simp
  ·split
   ·rename_i e;subst e;simp;omega
   ·rename_i e1 e2
    rw[hg.dom i]
    omega
 ·intro i m hi
  rw[hget] at hi
  split at hi
  ·rename_i e
   cases hi
   subst e
   obtain⟨b',c,ty,h1,h2,h3,h4,h5⟩:=hg.obj id l hM
   rw[hb] at h1
   cases h1
   exact⟨b,c,ty,hnew,h2,h3,h4,fun j x v hx hv=>(h5 j x v hx hv).evo hev⟩
  ·split at hi
   ·cases hi
   ·rename_i e1 e2
    obtain⟨b',c,ty,h1,h2,h3,h4,h5⟩:=hg.obj i m hi
    exact⟨b',c,ty,by simp only[μ2,if_neg e1,if_neg e2];exact h1,h2,h3,h4,fun j x v hx hv=>(h5 j x v hx hv).evo hev⟩
 ·intro i g hi
  rw[hget] at hi
  split at hi
  ·cases hi
  ·split at hi
   ·cases hi
   ·rename_i e1 e2
    obtain⟨p,h1,h2⟩:=hg.spare i g hi
    exact⟨p,by simp only[μ2,if_neg e1,if_neg e2];exact h1,h2⟩
 ·intro i j k hi hj
  rcases hlies i k hi with ⟨a1,a2⟩|⟨a1,a2,a3⟩<;>rcases hlies j k hj with ⟨b1,b2⟩|⟨b1,b2,b3⟩
  ·exact a1.trans b1.symm
  ·exact absurd (hg.inj j id _ b3 (.inl (a2 ▸ hb))) b2
  ·exact absurd (hg.inj i id _ a3 (.inl (b2 ▸ hb))) a2
  ·exact hg.inj i j k a3 b3
 ·intro i gg o vs t hi
  rw[hget] at hi
  split at hi
  ·cases hi
  ·split at hi
   ·cases hi
   ·rename_i e1 e2
    obtain⟨b',h1,h2,h3⟩:=hg.raw i gg o vs t hi
    exact⟨b',h1.congr (by simp only[μ2,if_neg e1,if_neg e2]),h2,fun i=>(h3 i).evo hev⟩
theorem lM {μ:Mu} {F:c8} {M:aG} {w:World} (hg:dY μ F M w) {id:Nat} (hid:id < M.next):
  ∃μ2:Mu,(∀i,i≠id→μ2 i=μ i)∧(∀b o,jG μ2 b o→∃i,i≠id∧(μ i=some (.at b)∨∃e g,μ i=some (.spare (some (b,e)) g)∧e≤o))∧dQ w μ w μ2∧∀N:aG,N.next=M.next→(∀i,N.get i=if i=id then none else M.get i)→dY μ2 F N w:=by
 let μ2:Mu:=fun i=>if i=id then some .dead else μ i
 have hne:∀i,i≠id→μ2 i=μ i:=fun i h=>by simp[μ2,h]
 have hown2:∀b o,jG μ2 b o→∃i,i≠id∧(μ i=some (.at b)∨∃e g,μ i=some (.spare (some (b,e)) g)∧e≤o):=by
  rintro k o ⟨i,h1|⟨e,g,h1,he⟩⟩
  ·by_cases hi:i=id
   ·simp only[μ2,if_pos hi] at h1;cases h1
   ·rw[hne i hi] at h1;exact⟨i,hi,.inl h1⟩
  ·by_cases hi:i=id
   ·simp only[μ2,if_pos hi] at h1;cases h1
   ·rw[hne i hi] at h1;exact⟨i,hi,.inr ⟨e,g,h1,he⟩⟩
 have hown:∀k o,jG μ2 k o→jG μ k o:=fun k o h=>by
  obtain⟨i,_,h1⟩:=hown2 k o h
  exact⟨i,h1⟩
 have hlies:∀i k,dH μ2 i k→i≠id∧dH μ i k:=by
  rintro i k (h1|⟨e,g,h1⟩)
  ·by_cases hi:i=id
   ·simp only[μ2,if_pos hi] at h1;cases h1
   ·rw[hne i hi] at h1;exact⟨hi,.inl h1⟩
  ·by_cases hi:i=id
   ·simp only[μ2,if_pos hi] at h1;cases h1
   ·rw[hne i hi] at h1;exact⟨hi,.inr ⟨e,g,h1⟩⟩
 have hev:dQ w μ w μ2:=by
  refine⟨rfl,rfl,rfl,Nat.le_refl _,?_,fun _ _ _=>rfl,fun k e c ty fr _ _ hc=>⟨c,fr,hc,rfl,fun _ _=>rfl⟩,fun k o _ ho=>hown k o ho⟩
  intro i hi
  by_cases h:i=id
  ·exact .inr (.inl (by simp[μ2,h]))
  ·exact .inl (hne i h)
 refine⟨μ2,hne,hown2,hev,fun N hN hget=>?_⟩
 refine {dom:=?_,obj:=?_,spare:=?_,inj:=fun i j k hi hj=>hg.inj i j k (hlies i k hi).2 (hlies j k hj).2,frm:=fun k o ho=>hg.frm k o (hown k o ho),fit:=⟨fun k o ho=>hg.fit.own k o (hown k o ho),hg.fit.frm⟩,raw:=?_}
 ·intro i
  rw[hN]
  by_cases h:i=id
  ·subst h
   simp[μ2]
   exact hid
  ·rw[hne i h]
   exact hg.dom i
 ·intro i m hi
  rw[hget] at hi
  split at hi
  ·cases hi
  ·rename_i e1
   obtain⟨b',c,ty,h1,h2,h3,h4,h5⟩:=hg.obj i m hi
   exact⟨b',c,ty,by rw[hne i e1];exact h1,h2,h3,h4,fun j x v hx hv=>(h5 j x v hx hv).evo hev⟩
 ·intro i g hi
  rw[hget] at hi
  split at hi
  ·cases hi
  ·rename_i e1
   obtain⟨p,h1,h2⟩:=hg.spare i g hi
   exact⟨p,by rw[hne i e1];exact h1,h2⟩
 ·intro i gg o vs t hi
  rw[hget] at hi
  split at hi
  ·cases hi
  ·rename_i e1
   obtain⟨b',h1,h2,h3⟩:=hg.raw i gg o vs t hi
   exact⟨b',h1.congr (hne i e1),h2,fun i=>(h3 i).evo hev⟩
theorem kS {μ:Mu} {F:c8} {w:World} {id b n cap sz:Nat} (h:μ id=some (.at b)):bP μ F w (.osl id 0 n cap sz) (.slice (some ⟨b,0,none⟩) n cap):=
 .osl _ _ _ _ _ _ rfl (by rw[h];simp) (fun b' hb=>by rw[h] at hb;cases hb;rfl)
def GL (M:aG) (old:List AV) (n sz:Nat) (ys:List AV) (N:aG) (u:AV) (M':aG):Prop:=
 ∃(cap':Nat) (l':List AV),n+ys.length≤cap'∧l'.length=cap'*sz∧l'.take ((n+ys.length)*sz)=old++b8 ys∧u=.osl M.next 0 (n+ys.length) cap' sz∧M'=N.push (.cells l')
theorem i4 {l cs:List AV} {n:Nat} (h:n+cs.length≤l.length):(b9 l n cs).take (n+cs.length)=l.take n++cs:=by
 apply List.ext_getElem?
 intro i
 rw[List.getElem?_take]
 by_cases hi:i < n+cs.length
 ·rw[if_pos hi,eZ _ _ _ _ h]
  by_cases h2:n≤i
  ·rw[if_pos ⟨h2,hi⟩,List.getElem?_append_right (by simp;omega)]
   congr 1
   simp
   omega
  ·rw[if_neg (by omega),List.getElem?_append_left (by simp;omega),List.getElem?_take,if_pos (by omega)]
 ·rw[if_neg hi]
  symm
  apply List.getElem?_eq_none
  simp
  omega
theorem zV {P:Program} {τ:Tab} (hτ:TabOK P τ) {t tx e:TypeId} {ti ei xi:TI} (hin:pY P τ t e ti ei) (hxi:aJ τ tx=some xi) {o:Oper} {s x:Operand}
  (ho:o.op=.call {callee:=.builtin .append,args:=#[s,x],argTypes:=#[t,tx]}) {ρ:Operand→AV} {M:aG} {id n cap sz:Nat} {l ys:List AV} (hS:ρ s=.osl id 0 n cap sz) (hsz:sz=ei.size) (hM:M.get id=some (.cells l)) (hl:l.length=cap*sz) (hnc:n≤cap)
  (hf:eG xi.k (ρ x)=true) (hX:iI ei.size (ρ x)=some ys) (hb:(n+ys.length)*ei.bytes≤140737488355328) (hlen:n+ys.length≤140737488355328) {Kp:AV→aG→Prop}:
  jD P o ρ M (fun u M'=>GL M (l.take (n*sz)) n sz ys (M.drop id) u M') Kp:=by
 subst hsz
 intro μ F w a hg hr next Q' hnext _
 have hs:=hr s (by simp[ho,Op.operands,Call.operands])
 have hx:=hr x (by simp[ho,Op.operands,Call.operands])
 rw[hS] at hs
 obtain⟨b,hbm,hv⟩:=eK hg hM hs
 obtain⟨b',c,tb,hb1,hb2,hb3,hb4,hb5⟩:=hg.obj id l hM
 rw[hbm] at hb1
 cases hb1
 obtain⟨hsy,news,hsrc,hnew⟩:=uC hτ hxi hf hX hx
 obtain⟨ft,dt,zt,HT⟩:=TI.spec hτ hin.tl
 obtain⟨fe,de,ze,HE⟩:=TI.spec hτ hin.el
 have hfi:=HT.fits
 rw[hin.tk] at hfi
 have hdd:dt=.slice e:=by
  cases dt<;>simp[TK.fits] at hfi
  rw[hfi]
 subst hdd
 have hly:=bZ hsy
 have hnl:=hsrc.newsLen
 have hsrc':Src P fe.size tx (a.eval x) ys.length news w:=by rw[HE.size];exact hsrc
 have hex:∀v w',(Builtin.append_ #[t,tx] o.type #[a.eval s,a.eval x]).run P w=.ok v w'→(execOp a.eval o).run P w=.ok (.value v) w':=by
  intro v w' h
  simp[execOp,ho,resolve,invoke,builtin,h]
 have hidn:id < M.next:=(hg.dom id).1 (by rw[hbm];simp)
 have hpn:∀l':List AV,((M.drop id).push (.cells l')).next=M.next+1:=fun _=>rfl
 have hpg:∀(l':List AV) (i:Nat),((M.drop id).push (.cells l')).get i=if i=M.next then some (.cells l') else if i=id then none else M.get i:=by
  intro l' i
  rw[aG.get_push,aG.get_drop]
  rfl
 unfold Oper.wp
 by_cases hroom:n+ys.length≤cap
 ·have hfl:n*ei.size+news.length≤c.size:=by
   rw[hnl,hb3,hl,←Nat.add_mul]
   exact Nat.mul_le_mul_right _ hroom
  have hrun:=run_append_room_src (P:=P) w t tx o.type e fe HT.und HE.info b 0 n cap (a.eval x) ys.length news hsrc' hroom (fun j hj=>by
    rw[HE.size,cF hb2,Nat.zero_add,Array.getElem?_eq_getElem (by omega)];rfl) (fun j hj=>by simp[World.frozen?,hb2])
  rw[HE.size,Nat.zero_add] at hrun
  obtain⟨hw,c',hc',hs',hget⟩:=gB b news (n*ei.size) c tb (0,0) w hb2 hfl
  have hle:n*ei.size+(b8 ys).length≤l.length:=by
   rw[hly,hl,←Nat.add_mul]
   exact Nat.mul_le_mul_right _ hroom
  have hin':∀k v,c'[k]? =some v→(n*ei.size≤k∧k < n*ei.size+(b8 ys).length∧news[k - n*ei.size]? =some v)∨(¬(n*ei.size≤k∧k < n*ei.size+(b8 ys).length)∧c[k]? =some v):=by
   intro k v hk
   rw[hget,hnl,←hly] at hk
   split at hk
   ·rename_i h;exact .inl ⟨h.1,h.2,hk⟩
   ·rename_i h;exact .inr ⟨h,hk⟩
  obtain⟨he,hG⟩:=lN hg hbm hb2 hw (l:=b9 l (n*ei.size) (b8 ys)) hc' hs' (by rw[hs',hb3,bO]) (fun k v hk=>by
    rcases hin' k v hk with ⟨_,_,h⟩|⟨_,h⟩
    ·exact hsrc.one _ (List.mem_of_getElem? h)
    ·exact hb4 _ _ h) (fun k q v hq hk=>by
    rw[eZ _ _ _ _ hle] at hq
    rcases hin' k v hk with ⟨ha,hb',h⟩|⟨hn',h⟩
    ·rw[if_pos ⟨ha,hb'⟩] at hq
     exact hnew _ _ _ hq h
    ·rw[if_neg hn'] at hq
     exact hb5 _ _ _ hq h)
  obtain⟨μ2,m1,m2,m3⟩:=GR hG (id:=id) (b:=b) (l:=b9 l (n*ei.size) (b8 ys)) (by rw[aG.get_set];simp) hbm
  have hnx:(M.set id (.cells (b9 l (n*ei.size) (b8 ys)))).next=M.next:=rfl
  rw[hnx] at m1 m3
  rw[hv] at hex
  rw[hex _ _ hrun]
  refine hnext μ2 _ _ _ _ (he.trans m2) (m3 ((M.drop id).push (.cells (b9 l (n*ei.size) (b8 ys)))) (hpn _) ?_) (kS m1) ⟨cap,b9 l (n*ei.size) (b8 ys),hroom,by rw[bO,hl],?_,rfl,rfl⟩
  ·intro i
   rw[hpg,aG.get_set]
   by_cases h1:i=M.next
   ·simp[h1]
   ·by_cases h2:i=id
    ·simp[h2]
    ·simp[h1,h2]
  ·have:=i4 hle
   rw[hly,←Nat.add_mul] at this
   exact this
 ·have hgrow:cap < n+ys.length:=by omega
  have hcs:n*ei.size≤c.size:=by rw[hb3,hl];exact Nat.mul_le_mul_right _ hnc
  let olds:=c.toList.take (n*ei.size)
  have hol:olds.length=n*ei.size:=by simp[olds];omega
  have hold:(Builtin.firstCells fe.size n (.slice (some ⟨b,0,none⟩) n cap)).run P w.drew=.ok olds.toArray w.drew:=by
   rw[HE.size]
   refine run_firstCells_some w.drew ei.size n _ _ _ olds hol (fun j u hu=>?_)
   have hj:olds[j]? =c[j]? :=by
    have:j < n*ei.size:=by rw[←hol];exact (List.getElem?_eq_some_iff.1 hu).1
    simp only[olds,List.getElem?_take,if_pos this,Array.getElem?_toList]
   rw[hj] at hu
   have:=cF (o:=0+j) hb2
   rw[Addr.add_lit]
   show w.cell? ⟨b,0+j,none⟩=some u
   rw[this,Nat.zero_add]
   exact hu
  have hfit:Builtin.nextslicecap (n+ys.length) cap*fe.bytes≤281474976710656:=by
   rw[HE.bytes]
   exact growslice_fits hgrow hb
  have hrun:=run_append_grow_src (P:=P) w t tx o.type e fe ze HT.und HE.info HE.zero (some ⟨b,0,none⟩) n cap olds hold (a.eval x) ys.length news hsrc' hgrow (by omega) hfit
  have hge:=grownCap_ge w (n+ys.length) cap e
  generalize hcap:grownCap w (n+ys.length) cap e=cap' at hrun hge
  let c':Array Value:=(olds++news).toArray++Builtin.zeroCells ze.cells (cap' - (n+ys.length))
  let w':World:=w.drew.alloc (.cells c' e)
  have hzs:ze.cells.size=ei.size:=by
   have:=(bV HE.cells).1
   simp only[Array.length_toList] at this
   rw[this,HE.len]
  have hc's:c'.size=cap'*ei.size:=by
   simp only[c',Array.size_append,List.size_toArray,List.length_append,hol,hnl,size_zeroCells,hzs,←Nat.add_mul]
   rw[Nat.add_sub_cancel' hge]
  have hheap:w'.heap[w.heap.size]? =some (.cells c' e (0,0)):=heap_alloc_new w.drew _
  have hbelow:Below w.heap.size w w':=⟨rfl,rfl,rfl,by simp[w',World.alloc],fun k hk=>heap_alloc_old w.drew _ hk⟩
  let l':List AV:=l.take (n*ei.size)++b8 ys++List.replicate ((cap' - (n+ys.length))*ei.size) .top
  have hlt:(l.take (n*ei.size)).length=n*ei.size:=by rw[List.length_take,hl];exact Nat.min_eq_left (Nat.mul_le_mul_right _ hnc)
  have hl':l'.length=cap'*ei.size:=by
   simp only[l',List.length_append,List.length_replicate,hlt,hly,←Nat.add_mul]
   rw[Nat.add_sub_cancel' hge]
  obtain⟨hev,hG⟩:=j9 hg hbelow (l:=l') (c:=c') (ty:=e) (b:=w.heap.size) (Nat.le_refl _) hheap (by rw[hc's,hl']) (by
    intro i v hi
    simp only[c'] at hi
    by_cases h1:i < (olds++news).length
    ·rw[Array.getElem?_append_left (by simpa using h1)] at hi
     simp only[List.getElem?_toArray] at hi
     rcases List.mem_append.1 (List.mem_of_getElem? hi) with h|h
     ·obtain⟨j,hj⟩:=List.getElem?_of_mem (List.mem_of_mem_take h)
      exact hb4 j v (by simpa using hj)
     ·exact hsrc.one _ h
    ·rw[Array.getElem?_append_right (by simpa using h1)] at hi
     exact j0 (z:=ze.cells) (fun u hu=>by
      obtain⟨j,hj⟩:=List.getElem?_of_mem (Array.mem_toList_iff.2 hu)
      have hjl:j < ei.zero.length:=by
       rw[HE.len,←hzs,←Array.length_toList]
       exact (List.getElem?_eq_some_iff.1 hj).1
      obtain⟨rfl,hp⟩:=(bV HE.cells).2 j u _ (by simpa using hj) (List.getElem?_eq_getElem hjl)
      exact oQ hp) (by rw[hzs];exact hin.pos) _ v (Array.mem_of_getElem? hi)) (by
    intro i q v hq hi
    simp only[l'] at hq
    simp only[c'] at hi
    by_cases h1:i < n*ei.size
    ·rw[List.append_assoc,List.getElem?_append_left (by rw[hlt];exact h1),List.getElem?_take,if_pos h1] at hq
     rw[Array.getElem?_append_left (by simp only[List.size_toArray,List.length_append];omega)] at hi
     simp only[List.getElem?_toArray] at hi
     rw[List.getElem?_append_left (by rw[hol];exact h1)] at hi
     simp only[olds,List.getElem?_take,if_pos h1,Array.getElem?_toList] at hi
     exact hb5 i q v hq hi
    ·by_cases h2:i < n*ei.size+(b8 ys).length
     ·rw[List.append_assoc,List.getElem?_append_right (by omega),hlt,List.getElem?_append_left (by omega)] at hq
      rw[Array.getElem?_append_left (by simp only[List.size_toArray,List.length_append];omega)] at hi
      simp only[List.getElem?_toArray] at hi
      rw[List.getElem?_append_right (by omega),hol] at hi
      exact hnew _ q v hq hi
     ·rw[List.getElem?_append_right (by simp only[List.length_append];omega)] at hq
      have:=List.mem_of_getElem? hq
      rw[List.mem_replicate] at this
      rw[this.2]
      exact .top _)
  obtain⟨μ2,n1,n2,n3,n4⟩:=lM hG (id:=id) (by show id < M.next+1;omega)
  have hne:M.next≠id:=by omega
  rw[hv] at hex
  rw[hex _ _ hrun]
  refine hnext μ2 _ _ _ _ (hev.trans n3) (n4 ((M.drop id).push (.cells l')) rfl ?_) (kS (b:=w.heap.size) (by rw[n1 _ hne];simp[Mu.put])) ⟨cap',l',hge,hl',?_,rfl,rfl⟩
  ·intro i
   rw[hpg,aG.get_push]
   by_cases h1:i=M.next
   ·simp[h1,hne]
   ·by_cases h2:i=id
    ·simp[h2,hne.symm]
    ·simp[h1,h2]
  ·simp only[l']
   rw[List.take_append_of_le_length (by rw[List.length_append,hlt,hly,←Nat.add_mul];exact Nat.le_refl _)]
   apply List.take_of_length_le
   rw[List.length_append,hlt,hly,←Nat.add_mul]
   exact Nat.le_refl _
end Go.Ab
