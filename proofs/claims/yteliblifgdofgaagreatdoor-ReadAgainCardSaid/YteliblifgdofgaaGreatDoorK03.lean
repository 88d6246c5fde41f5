/- Parts of the proof, one behind the other. No further condition. -/
import Derived.Test.YteliblifgdofgaaGreatDoorK02
import Derived.RangeFuncLeaves
import Derived.RangeFuncOne
import Derived.RangeFuncCalls
import Derived.OrdersIn
import Derived.TacticsIn
set_option linter.unusedVariables false
set_option linter.unusedSimpArgs false
set_option maxRecDepth 100000
set_option maxHeartbeats 8000000
namespace Go.Ab
open Go.RowKit
inductive AX where
 |normal
 |exit (id:Nat)
 |ret
 |panic (v:AV)
inductive cH where
 |ret (v:AV)
 |pan (v:AV)
def cN (μ:Mu) (F:c8) (w:World) (l:List AV) (c:Array Value):Prop:=
 c.size=l.length∧∀(i:Nat) (x:AV) (v:Value),l[i]? =some x→c[i]? =some v→bP μ F w x v
theorem cN.evo {μ μ':Mu} {F:c8} {w w':World} (hev:dQ w μ w' μ') {l:List AV} {c:Array Value} (h:cN μ F w l c):cN μ' F w' l c:=
 ⟨h.1,fun i x v hx hv=>(h.2 i x v hx hv).evo hev⟩
theorem cN.nil {μ:Mu} {F:c8} {w:World}:cN μ F w [] #[]:=⟨rfl,by simp⟩
theorem cN.app {μ:Mu} {F:c8} {w:World} {l m:List AV} {c d:Array Value} (h:cN μ F w l c) (k:cN μ F w m d):cN μ F w (l++m) (c++d):=by
 refine⟨by simp[h.1,k.1],?_⟩
 intro i x v hx hv
 by_cases hi:i < l.length
 ·rw[List.getElem?_append_left hi] at hx
  rw[Array.getElem?_append_left (by rw[h.1];exact hi)] at hv
  exact h.2 i x v hx hv
 ·rw[List.getElem?_append_right (by omega)] at hx
  rw[Array.getElem?_append_right (by rw[h.1];omega),h.1] at hv
  exact k.2 _ x v hx hv
theorem cN.cons {μ:Mu} {F:c8} {w:World} {x:AV} {v:Value} (h:bP μ F w x v):cN μ F w [x] #[v]:=by
 refine⟨rfl,?_⟩
 intro i y u hy hu
 cases i with
 |zero=>simp at hy hu;subst hy;subst hu;exact h
 |succ i=>simp at hy
theorem cN.map {μ:Mu} {F:c8} {w:World} {ρ:Operand→AV} {ρc:Operand→Value} {xs:Array Operand} (h:∀x∈xs,bP μ F w (ρ x) (ρc x)):cN μ F w (xs.toList.map ρ) (xs.map ρc):=by
 refine⟨by simp,?_⟩
 intro i x v hx hv
 simp only[List.getElem?_map,Array.getElem?_toList,Array.getElem?_map] at hx hv
 cases e:xs[i]? with
 |none=>simp[e] at hx
 |some y=>
  simp[e] at hx hv
  subst hx;subst hv
  exact h y (Array.mem_of_getElem? e)
structure bJ where
 f:Fn
 cap:List AV
 args:List AV
 keep:List (Nat×AV):=[]
 mark:Option Nat:=none
def dD:List bJ→List (Nat×AV)
 |[]=>[]
 |d::r=>d.keep++dD r
structure E5 (μ:Mu) (F:c8) (w:World) (x:bJ) (d:Deferred):Prop where
 tgt:x.mark=none→∃c,d.target=.fn x.f c∧cN μ F w x.cap c
 args:cN μ F w x.args d.args
 mrk:∀y,x.mark=some y→μ y≠none∧∀b,μ y=some (.at b)→d.target=.collected b
def fM (μ:Mu) (F:c8) (w:World):List bJ→List Deferred→Prop
 |[],[]=>True
 |x::l,d::r=>E5 μ F w x d∧fM μ F w l r
 |_,_=>False
theorem fM.evo {μ μ':Mu} {F:c8} {w w':World} (hev:dQ w μ w' μ'):∀{l:List bJ} {r:List Deferred},fM μ F w l r→fM μ' F w' l r
 |[],[],_=>trivial
 |_::_,_::_,⟨⟨h1,h3,h5⟩,h4⟩=>⟨⟨fun h=>(h1 h).imp fun _ h=>⟨h.1,h.2.evo hev⟩,h3.evo hev,fun y hy=>by
   obtain⟨k1,k2⟩:=h5 y hy
   rcases hev.mu y k1 with h'|h'|⟨_,_,_,_,_,h',_⟩
   ·rw[h']
    exact⟨k1,k2⟩
   ·exact⟨by rw[h'];simp,fun b hb=>by rw[h'] at hb;cases hb⟩
   ·exact⟨by rw[h'];simp,fun b hb=>by rw[h'] at hb;cases hb⟩⟩,fM.evo hev h4⟩
structure AF where
 t:List (Nat×AV)
 d:List bJ
def AF.get (f:AF) (i:Nat):AV:=(aJ f.t i).getD .top
def AF.ev (f:AF):Operand→AV
 |.tmp t=>f.get t
 |.const v=>T7 v
 |.global _=>.top
 |.func g=>.fn (.func g) [] []
def AF.put (f:AF) (dst:Option Tmp) (x:AV):AF:=
 match dst with
 |some d=>⟨(d,x)::f.t,f.d⟩
 |none=>f
structure gX (μ:Mu) (F:c8) (w:World) (n:Nat) (f:AF) (a:Act):Prop where
 size:a.tmps.size=n
 tmps:∀t,bP μ F w (f.get t) (a.tmps.getD t undef)
 defs:fM μ F w f.d a.defers
 kept:∀p,p∈dD f.d→bP μ F w p.2 (a.tmps.getD p.1 undef)
theorem gX.evo {μ μ':Mu} {F:c8} {w w':World} (hev:dQ w μ w' μ') {n:Nat} {f:AF} {a:Act} (h:gX μ F w n f a):gX μ' F w' n f a:=
 ⟨h.size,fun t=>(h.tmps t).evo hev,h.defs.evo hev,fun p hp=>(h.kept p hp).evo hev⟩
theorem gX.ev {μ:Mu} {F:c8} {w:World} {n:Nat} {f:AF} {a:Act} (h:gX μ F w n f a) (x:Operand):bP μ F w (f.ev x) (a.eval x):=by
 cases x with
 |tmp t=>exact h.tmps t
 |const v=>exact P4 _ _ _ _
 |global g=>exact .top _
 |func g=>exact .fn _ _ _ _ _ rfl rfl (by simp) (by simp)
theorem gX.put {μ:Mu} {F:c8} {w:World} {n:Nat} {f:AF} {a:Act} (h:gX μ F w n f a) {dst:Option Tmp} (hd:∀d,dst=some d→d < n∧∀p,p∈dD f.d→p.1≠d) {x:AV} {v:Value} (hr:bP μ F w x v):gX μ F w n (f.put dst x) (a.put dst v):=by
 cases dst with
 |none=>exact h
 |some d=>
  obtain⟨hlt,hk⟩:=hd d rfl
  refine⟨by simp[Act.put,h.size],?_,h.defs,fun p hp=>by
   have:=h.kept p hp
   simp only[Act.put]
   rw[Array.getD_eq_getD_getElem?,Array.getElem?_setIfInBounds_ne (Ne.symm (hk p hp)),←Array.getD_eq_getD_getElem?]
   exact this⟩
  intro t
  simp only[AF.put,AF.get,aJ,Act.put]
  by_cases ht:t=d
  ·subst ht
   have:t < a.tmps.size:=by rw[h.size];exact hlt
   simp[Array.getElem?_setIfInBounds,this,hr]
  ·rw[if_neg ht]
   have:=h.tmps t
   rw[Array.getD_eq_getD_getElem?,Array.getElem?_setIfInBounds_ne (by omega),←Array.getD_eq_getD_getElem?]
   exact this
def Sub (x y:AV):Prop:=∀(μ:Mu) (F:c8) (w:World) (v:Value),bP μ F w x v→bP μ F w y v
theorem Sub.refl {x:AV}:Sub x x:=fun _ _ _ _ h=>h
theorem Sub.top {x:AV}:Sub x .top:=fun _ _ _ v _=>.top v
theorem Sub.of_eq {x y:AV} (h:x=y):Sub x y:=by subst h;exact Sub.refl
def AF.le (g f:AF):Prop:=g.d=f.d∧∀t,Sub (f.get t) (g.get t)
theorem gX.le {μ:Mu} {F:c8} {w:World} {n:Nat} {f g:AF} {a:Act} (h:gX μ F w n f a) (hg:g.le f):gX μ F w n g a:=
 ⟨h.size,fun t=>hg.2 t _ _ _ _ (h.tmps t),by rw[hg.1];exact h.defs,by rw[hg.1];exact h.kept⟩
def aG.le (N M:aG):Prop:=N.next=M.next∧∀i o,N.get i=some o→M.get i=some o
theorem dY.le {μ:Mu} {F:c8} {M N:aG} {w:World} (h:dY μ F M w) (hl:N.le M):dY μ F N w:=
 ⟨fun id=>by rw[hl.1];exact h.dom id,fun id l hM=>h.obj id l (hl.2 id _ hM),fun id g hM=>h.spare id g (hl.2 id _ hM),h.inj,h.frm,h.fit,fun id g o vs t hM=>h.raw id g o vs t (hl.2 id _ hM)⟩
def aR (n0:Nat) (f:AF) (M:aG) (g:AF) (N:aG):Prop:=
 ∀(μ0 μ:Mu) (F:c8) (w0 w:World) (n:Nat) (a:Act),(∀id,μ0 id≠none→id < n0)→dQ w0 μ0 w μ→dY μ F M w→gX μ F w n f a→∃μ',dQ w0 μ0 w μ'∧dY μ' F N w∧gX μ' F w n g a
theorem aR.refl {n0:Nat} {f:AF} {M:aG}:aR n0 f M f M:=fun μ0 μ F w0 w n a _ he hg hr=>⟨μ,he,hg,hr⟩
theorem aR.trans {n0:Nat} {f g h:AF} {M N L:aG} (h1:aR n0 f M g N) (h2:aR n0 g N h L):aR n0 f M h L:=by
 intro μ0 μ F w0 w n a hn he hg hr
 obtain⟨μ1,e1,g1,r1⟩:=h1 μ0 μ F w0 w n a hn he hg hr
 exact h2 μ0 μ1 F w0 w n a hn e1 g1 r1
theorem aR.le {n0:Nat} {f g:AF} {M N:aG} (hf:g.le f) (hM:N.le M):aR n0 f M g N:=fun μ0 μ F w0 w n a _ he hg hr=>⟨μ,he,hg.le hM,hr.le hf⟩
def FV (μ:Mu) (F:c8) (w:World):Exit→AX→Prop
 |.normal,.normal=>True
 |.exit i,.exit j=>i=j
 |.ret,.ret=>True
 |.panic ch,.panic x=>∃v,ch=[{v,recovered:=false}]∧bP μ F w x v
 |_,_=>False
def JF (n:Nat) (Q:AX→AF→aG→Prop) (μ:Mu) (F:c8) (w:World):Exit→Act→World→Prop:=
 fun e a' w'=>∃μ' f' M' x,dQ w μ w' μ'∧dY μ' F M' w'∧gX μ' F w' n f' a'∧FV μ' F w' e x∧Q x f' M'
def xR (r:Option Nat):Fence:={Fence.wide with round:=r}
theorem YI {r:Option Nat} {n m:Nat} {P:Program} {c:Code} {Q:Exit→Act→World→Prop} {a:Act} {w:World} (h:c.wpIn (xR r) n P Q a w):c.wpIn (xR r) m P Q a w:=
 fun b k cs h1 h2 _=>h b k cs h1 h2 (fun d hd=>by cases hd)
theorem yM {n:Nat} {P:Program} {c:Code} {Q:Exit→Act→World→Prop} {a:Act} {w:World} (h:c.wpIn (xR none) n P Q a w):c.wp P Q a w:=(wpIn_wide (n:=n)).1 h
theorem GE {r:Option Nat} {n:Nat} {P:Program} {g:FuncId} {vs:Array Value} {w:World} {R:Ending→World→Prop} (h:Calls P g vs w R):CallsIn (xR r) n P g vs w R:=callsIn_wide.2 h
theorem D5 {r:Option Nat} {P:Program} {ρ:Operand→Value} {o:Oper} {w w':World} {nx:Next} (h:(execOp ρ o).run P w=.ok nx w') (hn:∀d,nx≠.defer d):(o.semAt r ρ).run P w=.ok nx w':=by
 rw[Oper.semAt_eq r ρ o,h]
 intro c hc
 simp only[execOp,hc,Sem.run_bind] at h
 cases hr:(resolve ρ c o.type).run P w with
 |halt x w2=>rw[hr] at h;simp[Result.andThen] at h
 |ok d w2=>rw[hr] at h;simp[Result.andThen] at h;exact hn d h.1.symm
theorem HZ {r:Option Nat} {P:Program} {o:Oper} {a:Act} {w w':World} {next:Act→World→Prop} {Q:Exit→Act→World→Prop} {v:Value} {nx:Next} (h:(execOp a.eval o).run P w=.ok nx w') (hv:nx=.value v∨nx=.skip∧v=undef)
  (hk:next (a.put o.dst v) w'):o.wpIn (xR r) 9 P a w next Q:=by
 refine⟨fun _ _=>trivial,?_⟩
 have:=D5 (r:=r) h (by rcases hv with rfl|⟨rfl,rfl⟩<;>intro d e<;>cases e)
 show o.uponIn (xR r) 9 P a next Q ((o.semAt r a.eval).run P w)
 rw[this]
 rcases hv with rfl|⟨rfl,rfl⟩<;>exact hk
theorem a49 {r:Option Nat} {n:Nat} {P:Program} {row:String} {vs:Array Value} {w:World} {R:Value→World→Prop} (h:Rows P row vs w R):RowsIn (xR r) n P row vs w R:=by
 intro c cs _
 obtain⟨v,w',h1,h2⟩:=h c cs
 exact⟨v,w',h1,stepsIn_wide.2 h2⟩
theorem xS {r:Option Nat} {n:Nat} {P:Program} {o:Oper} {a:Act} {w:World} {next:Act→World→Prop} {Q:Exit→Act→World→Prop} (hnd:∀c,o.op≠.defer c) (h:o.wp P a w next Q):o.wpIn (xR r) n P a w next Q:=by
 refine⟨fun _ _=>trivial,?_⟩
 show o.uponIn (xR r) n P a next Q ((o.semAt r a.eval).run P w)
 rw[Oper.semAt_eq r _ o hnd]
 unfold Oper.wp at h
 generalize (execOp a.eval o).run P w=res at h
 cases res with
 |ok x w'=>
  cases x<;>simp only[Oper.upon,Oper.uponIn] at h ⊢<;>
   first
    |exact h
    |exact⟨fun e=>(by cases e),GE h⟩
    |exact⟨fun e=>(by cases e),a49 h⟩
    |exact h.elim
 |halt x w'=>cases x<;>simp only[Oper.upon,Oper.uponIn] at h ⊢<;>first|exact h|exact h.elim
structure W (r:Option Nat) (P:Program) (n:Nat) (c:Code) (Q:AX→AF→aG→Prop) (f:AF) (M:aG):Prop where
 run:∀(μ:Mu) (F:c8) (w:World) (a:Act),dY μ F M w→gX μ F w n f a→c.wpIn (xR r) 9 P (JF n Q μ F w) a w
theorem JF.trans {n:Nat} {Q:AX→AF→aG→Prop} {μ μ1:Mu} {F:c8} {w w1:World} (h:dQ w μ w1 μ1) {e:Exit} {a:Act} {w':World} (hp:JF n Q μ1 F w1 e a w'):JF n Q μ F w e a w':=by
 obtain⟨μ',f',M',x,h1,h2,h3,h4,h5⟩:=hp
 exact⟨μ',f',M',x,h.trans h1,h2,h3,h4,h5⟩
theorem W.mono {r:Option Nat} {P:Program} {n:Nat} {c:Code} {Q Q':AX→AF→aG→Prop} {f:AF} {M:aG} (h:W r P n c Q f M) (hq:∀x f M,Q x f M→Q' x f M):W r P n c Q' f M:=
 ⟨fun μ F w a hg hr=>wpIn_mono (h.run μ F w a hg hr) fun e a' w' ⟨μ',f',M',x,h1,h2,h3,h4,h5⟩=>⟨μ',f',M',x,h1,h2,h3,h4,hq x f' M' h5⟩⟩
theorem W.le {r:Option Nat} {P:Program} {n:Nat} {c:Code} {Q:AX→AF→aG→Prop} {f g:AF} {M N:aG} (hf:g.le f) (hM:N.le M) (h:W r P n c Q g N):W r P n c Q f M:=
 ⟨fun μ F w a hg hr=>h.run μ F w a (hg.le hM) (hr.le hf)⟩
section
variable {r:Option Nat} {P:Program} {n:Nat} {Q:AX→AF→aG→Prop} {f:AF} {M:aG}
theorem a6i (h:Q .normal f M):W r P n .skip Q f M:=
 ⟨fun μ F w a hg hr=>wpIn_skip ⟨μ,f,M,.normal,dQ.refl _ _,hg,hr,trivial,h⟩⟩
theorem aA7 (h:Q .ret f M):W r P n .ret Q f M:=
 ⟨fun μ F w a hg hr=>wpIn_ret ⟨μ,f,M,.ret,dQ.refl _ _,hg,hr,trivial,h⟩⟩
theorem a5v {id:Nat} (h:Q (.exit id) f M):W r P n (.exit id) Q f M:=
 ⟨fun μ F w a hg hr=>wpIn_exit ⟨μ,f,M,.exit id,dQ.refl _ _,hg,hr,rfl,h⟩⟩
def sK (K:AF→aG→Prop) (Q:AX→AF→aG→Prop):AX→AF→aG→Prop
 |.normal,f,M=>K f M
 |x,f,M=>Q x f M
theorem aA9 {c d:Code} (h:W r P n c (sK (fun f M=>W r P n d Q f M) Q) f M):W r P n (.seq c d) Q f M:=by
 refine⟨fun μ F w a hg hr=>?_⟩
 refine wpIn_seq (wpIn_mono (h.run μ F w a hg hr) ?_)
 rintro e a' w' ⟨μ',f',M',x,h1,h2,h3,h4,h5⟩
 cases e with
 |normal=>
  cases x<;>simp only[FV] at h4
  exact wpIn_mono (h5.run μ' F w' a' h2 h3) fun e a w hp=>hp.trans h1
 |exit id=>cases x<;>first|exact h4.elim|exact⟨μ',f',M',_,h1,h2,h3,h4,h5⟩
 |goto l=>cases x<;>exact h4.elim
 |ret=>cases x<;>first|exact h4.elim|exact⟨μ',f',M',_,h1,h2,h3,h4,h5⟩
 |panic ch=>cases x<;>first|exact h4.elim|exact⟨μ',f',M',_,h1,h2,h3,h4,h5⟩
 |outgrown=>cases x<;>exact h4.elim
def N5 (id:Nat) (Q:AX→AF→aG→Prop):AX→AF→aG→Prop
 |.exit j,f,M=>if j=id then Q .normal f M else Q (.exit j) f M
 |x,f,M=>Q x f M
theorem a1g {id:Nat} {c:Code} (h:W r P n c (N5 id Q) f M):W r P n (.block id c) Q f M:=by
 refine⟨fun μ F w a hg hr=>?_⟩
 refine wpIn_block (wpIn_mono (h.run μ F w a hg hr) ?_)
 rintro e a' w' ⟨μ',f',M',x,h1,h2,h3,h4,h5⟩
 cases e with
 |normal=>cases x<;>simp only[FV] at h4;exact⟨μ',f',M',.normal,h1,h2,h3,trivial,h5⟩
 |exit j=>
  cases x<;>simp only[FV] at h4
  subst h4
  simp only[Exit.inBlock,N5] at h5 ⊢
  split
  ·rename_i e
   rw[if_pos e] at h5
   exact⟨μ',f',M',.normal,h1,h2,h3,trivial,h5⟩
  ·rename_i e
   rw[if_neg e] at h5
   exact⟨μ',f',M',.exit j,h1,h2,h3,rfl,h5⟩
 |goto l=>cases x<;>exact h4.elim
 |ret=>cases x<;>first|exact h4.elim|exact⟨μ',f',M',_,h1,h2,h3,h4,h5⟩
 |panic ch=>cases x<;>first|exact h4.elim|exact⟨μ',f',M',_,h1,h2,h3,h4,h5⟩
 |outgrown=>cases x<;>exact h4.elim
theorem UG {c:Operand} {d e:Code} {b:Bool} (hc:f.ev c=.bool b) (h1:b=true→W r P n d Q f M) (h2:b=false→W r P n e Q f M):W r P n (.cond c d e) Q f M:=by
 refine⟨fun μ F w a hg hr=>?_⟩
 have hv:=hr.ev c
 rw[hc] at hv
 generalize hva:a.eval c=v at hv
 cases hv
 exact wpIn_cond_split hva (fun h=>(h1 h).run μ F w a hg hr) (fun h=>(h2 h).run μ F w a hg hr)
theorem a6l {c:Operand} {d e:Code} (hc:f.ev c=.bool true) (h1:W r P n d Q f M):W r P n (.cond c d e) Q f M:=UG hc (fun _=>h1) (fun h=>by cases h)
theorem a01 {c:Operand} {d e:Code} (hc:f.ev c=.bool false) (h1:W r P n e Q f M):W r P n (.cond c d e) Q f M:=UG hc (fun h=>by cases h) (fun _=>h1)
theorem jR {c:Code} {g:AF} {N:aG} (hj:aR M.next f M g N) (h:W r P n c Q g N):W r P n c Q f M:=by
 refine⟨fun μ F w a hg hr=>?_⟩
 obtain⟨μ',e,hg',hr'⟩:=hj μ μ F w w n a (fun id h=>(hg.dom id).1 h) (dQ.refl _ _) hg hr
 exact wpIn_mono (h.run μ' F w a hg' hr') fun e' a' w' hp=>hp.trans e
theorem lB {c:Code} (I:Nat→AF→aG→Prop) {k:Nat} {f0:AF} {M0:aG} (h0:I k f0 M0) (hj:aR M.next f M f0 M0)
  (round:∀k f' N,I k f' N→W r P n c (sK (fun f1 M1=>∃k' f'' M'',k' < k∧I k' f'' M''∧aR M.next f1 M1 f'' M'') Q) f' N):W r P n (.loop c) Q f M:=by
 refine⟨fun μ F w a hg hr=>?_⟩
 have hdom:∀id,μ id≠none→id < M.next:=fun id h=>(hg.dom id).1 h
 let J:Nat→Act→World→Prop:=fun k a' w'=>∃μ' f' M',dQ w μ w' μ'∧dY μ' F M' w'∧gX μ' F w' n f' a'∧I k f' M'
 intro b K cs hro hb hrm
 have key:∀(k:Nat) (a':Act) (w':World),J k a' w'→∃e a2 w2,JF n Q μ F w e a2 w2∧ArrivesIn (Machine.fenced P (xR r)) P (lone (b.atR a' (.code c::.inLoop c::K)) cs w') b K cs e a2 w2:=by
  intro k
  induction k using Nat.strongRecOn with
  |_ k ih=>
   intro a' w' ⟨μ',f',M',h1,h2,h3,h4⟩
   obtain⟨e,a1,w1,⟨μ1,f1,M1,x,g1,g2,g3,g4,g5⟩,harr⟩:=(round k f' M' h4).run μ' F w' a' h2 h3 b (.inLoop c::K) cs hro hb hrm
   have hev:=h1.trans g1
   cases e with
   |normal=>
    cases x<;>simp only[FV] at g4
    obtain⟨k',f'',M'',hlt,hI,hjj⟩:=g5
    obtain⟨μ2,j1,j2,j3⟩:=hjj μ μ1 F w w1 n a1 hdom hev g2 g3
    obtain⟨e2,a2,w2,hq2,harr2⟩:=ih k' hlt a1 w1 ⟨μ2,f'',M'',j1,j2,j3,hI⟩
    exact⟨e2,a2,w2,hq2,.of_steps (StepsIn.trans harr (.one (fenced_calm hb hrm rfl) stepR_inLoop)) harr2⟩
   |exit id=>
    cases x<;>first|exact g4.elim|skip
    exact⟨_,a1,w1,⟨μ1,f1,M1,_,hev,g2,g3,g4,g5⟩,.pass (x:=.inLoop c) rfl (fun _ _=>.inl (by simp)) harr⟩
   |goto l=>cases x<;>exact g4.elim
   |ret=>
    cases x<;>first|exact g4.elim|skip
    exact⟨_,a1,w1,⟨μ1,f1,M1,_,hev,g2,g3,g4,g5⟩,.pass (x:=.inLoop c) rfl (fun _ _=>.inl (by simp)) harr⟩
   |panic ch=>
    cases x<;>first|exact g4.elim|skip
    exact⟨_,a1,w1,⟨μ1,f1,M1,_,hev,g2,g3,g4,g5⟩,.pass (x:=.inLoop c) rfl (fun _ _=>.inl (by simp)) harr⟩
   |outgrown=>cases x<;>exact g4.elim
 obtain⟨μ0,j1,j2,j3⟩:=hj μ μ F w w n a hdom (dQ.refl _ _) hg hr
 obtain⟨e,a',w',hq,harr⟩:=key k a w ⟨μ0,f0,M0,j1,j2,j3,h0⟩
 exact⟨e,a',w',hq,.of_steps (.one (fenced_calm hb hrm rfl) stepR_loop) harr⟩
end
end Go.Ab
namespace Go.Ab
open Go.RowKit
def WL (r:Option Nat) (P:Program) (n:Nat) (ops:Array Oper) (Q:AX→AF→aG→Prop) (rest:List Oper) (f:AF) (M:aG):Prop:=
 ∀(μ:Mu) (F:c8) (w:World) (a:Act),dY μ F M w→gX μ F w n f a→∀Q':Exit→Act→World→Prop,(∀e a' w',JF n Q μ F w e a' w'→Q' e a' w')→wpListIn (xR r) 9 P ops Q' rest a w
def aT (ops:Array Oper) (f:AF) (o:Oper):Option Bool:=
 match o.guard with
 |none=>some true
 |some (j,b)=>
  match (ops[j]?).bind (·.dst) with
  |some d=>(match f.get d with|.bool c=>some (c==b)|.tup []=>some false|_=>none)
  |none=>none
theorem uW {μ:Mu} {F:c8} {w:World}:bP μ F w (.tup []) undef:=.tup _ _ rfl (by simp)
theorem tC {μ:Mu} {F:c8} {w:World} {ops:Array Oper} {o:Oper} {tmps:Array Value} {j d:Nat} {want:Bool} (hg:o.guard=some (j,want)) (hd:(ops[j]?).bind (·.dst)=some d) (hv:bP μ F w (.tup []) (tmps.getD d undef)):
  Region.wanted o (yielded ops tmps)=false:=by
 simp only[Region.wanted,hg,yielded,hd,Option.bind_some]
 cases ht:tmps[d]? with
 |none=>rfl
 |some u=>
  rw[Array.getD_eq_getD_getElem?,ht] at hv
  simp only[Option.getD_some] at hv
  obtain⟨c,rfl,_⟩:=hv.tup_inv
  rfl
theorem iN {μ:Mu} {F:c8} {w:World} {n:Nat} {f:AF} {a:Act} (hr:gX μ F w n f a) {ops:Array Oper} {o:Oper} {b:Bool} (h:aT ops f o=some b):Region.wanted o (yielded ops a.tmps)=b:=by
 unfold aT at h
 split at h
 ·rename_i hg
  cases h
  simp[Region.wanted,hg]
 ·rename_i j want hg
  split at h
  ·rename_i d hd
   split at h
   ·rename_i c hc
    cases h
    have hv:=hr.tmps d
    rw[hc] at hv
    generalize hu:a.tmps.getD d undef=u at hv
    cases hv
    have hlt:d < a.tmps.size:=by
     rcases Nat.lt_or_ge d a.tmps.size with h|h
     ·exact h
     ·simp[Array.getD,Nat.not_lt.2 h,undef] at hu
    have hget:a.tmps[d]? =some (.bool c):=by
     rw[Array.getElem?_eq_getElem hlt]
     simp[Array.getD,hlt] at hu
     rw[hu]
    simp only[Region.wanted,hg,yielded,hd,Option.bind_some,hget]
    cases c<;>cases want<;>rfl
   ·rename_i hc
    cases h
    have hv:=hr.tmps d
    rw[hc] at hv
    exact tC hg hd hv
   ·cases h
  ·cases h
def HU:Op→Bool
 |.defer _=>false
 |_=>true
theorem B9 {op:Op} (h:HU op=true):∀c,op≠.defer c:=by
 rintro c rfl
 cases h
def jB (ds:List bJ) (o:Oper) (n:Nat):Bool:=HU o.op&&match o.dst with|some d=>decide (d < n)&&(dD ds).all (fun p=>!(p.1==d))|none=>true
theorem iQ {ds:List bJ} {o:Oper} {n:Nat} (h:jB ds o n=true):∀d,o.dst=some d→d < n∧∀p,p∈dD ds→p.1≠d:=by
 intro d hd
 simp only[jB,hd,Bool.and_eq_true,decide_eq_true_eq,List.all_eq_true,Bool.not_eq_true',beq_eq_false_iff_ne] at h
 exact h.2
theorem XD {ds:List bJ} {o:Oper} {n:Nat} (h:jB ds o n=true):∀c,o.op≠.defer c:=B9 ((Bool.and_eq_true _ _ ▸ h:_∧_).1)
section
variable {r:Option Nat} {P:Program} {n:Nat} {ops:Array Oper} {Q:AX→AF→aG→Prop} {rest:List Oper} {o:Oper} {f:AF} {M:aG}
theorem eB {id:Nat} {ops:Array Oper} (h:WL r P n ops Q ops.toList f M):W r P n (.region id ops false) Q f M:=
 ⟨fun μ F w a hg hr=>wpIn_region_list (h μ F w a hg hr _ fun _ _ _ hp=>hp)⟩
theorem i7 (h:Q .normal f M):WL r P n ops Q [] f M:=
 fun μ F w a hg hr Q' hQ=>hQ _ _ _ ⟨μ,f,M,.normal,dQ.refl _ _,hg,hr,trivial,h⟩
theorem aAj (hw:aT ops f o=some true) (hd:jB f.d o n=true) {x:AV} {M':aG} (ho:F9 P o.op o.type f.ev M x M') (h:WL r P n ops Q rest (f.put o.dst x) M'):WL r P n ops Q (o::rest) f M:=by
 intro μ F w a hg hr Q' hQ
 unfold wpListIn
 rw[iN hr hw,if_pos rfl]
 obtain⟨μ',nx,v,w',h1,h2,h3,h4,h5⟩:=ho μ F w a.eval o hg rfl rfl (fun y _=>hr.ev y)
 have hgo:wpListIn (xR r) 9 P ops Q' rest (a.put o.dst v) w':=h μ' F w' _ h4 ((hr.evo h3).put (iQ hd) h5) Q' fun e a' w'' hp=>hQ _ _ _ (hp.trans h3)
 exact HZ h1 h2 hgo
theorem GG (hw:aT ops f o=some true) (hd:jB f.d o n=true) {x:AV} (ho:jF P o.op o.type f.ev x) (h:WL r P n ops Q rest (f.put o.dst x) M):WL r P n ops Q (o::rest) f M:=aAj hw hd ho.toR.toE h
end
def jM (P:Program) (g:FuncId):Prop:=∃fn c,P.funcs[g]? =some fn∧fn.body=some c∧fn.name≠ "runtime.NumGoroutine"
theorem jV {P:Program} {g:FuncId} (h:jM P g) (args:Array Value) (w:World):(callFunc g args).run P w=.ok (.enter g args) w:=by
 obtain⟨fn,c,h1,h2,h3⟩:=h
 simp[callFunc,h1,h2,h3]
def aQ (P:Program) (g:FuncId) (args:List AV) (M:aG) (R:cH→aG→Prop):Prop:=
 jM P g∧∀(μ:Mu) (F:c8) (w:World) (vs:Array Value),dY μ F M w→cN μ F w args vs→
  Calls P g vs w fun e w'=>∃μ' M',dQ w μ w' μ'∧dY μ' F M' w'∧
   match e with
   |.returned v=>∃x,bP μ' F w' x v∧R (.ret x) M'
   |.panicked ch=>∃x v,ch=[{v,recovered:=false}]∧bP μ' F w' x v∧R (.pan x) M'
   |.outgrown=>False
theorem aQ.mono {P:Program} {g:FuncId} {args:List AV} {M:aG} {R R':cH→aG→Prop} (h:aQ P g args M R) (hr:∀e M,R e M→R' e M):aQ P g args M R':=by
 refine⟨h.1,fun μ F w vs hg hv=>(h.2 μ F w vs hg hv).mono ?_⟩
 rintro e w' ⟨μ',M',h1,h2,h3⟩
 refine⟨μ',M',h1,h2,?_⟩
 cases e with
 |returned v=>obtain⟨x,h4,h5⟩:=h3;exact⟨x,h4,hr _ _ h5⟩
 |panicked ch=>obtain⟨x,v,h4,h5,h6⟩:=h3;exact⟨x,v,h4,h5,hr _ _ h6⟩
 |outgrown=>exact h3
theorem aQ.le {P:Program} {g:FuncId} {args:List AV} {M N:aG} {R:cH→aG→Prop} (hM:N.le M) (h:aQ P g args N R):aQ P g args M R:=
 ⟨h.1,fun μ F w vs hg hv=>h.2 μ F w vs (hg.le hM) hv⟩
def aO (P:Program) (g:FuncId) (args:List AV) (r:AV):Prop:=∀M,aQ P g args M fun e M'=>e=.ret r∧M'=M
theorem a0u {P:Program} {n:Nat} {o:Oper} {x:Operand} {ags:Array Operand} {ts:Array TypeId} (ho:o.op=.call {callee:=.value x,args:=ags,argTypes:=ts}) {f:AF} {M:aG} {g:FuncId} {fi ca:List AV}
  (hx:f.ev x=.fn (.func g) fi ca) {R:cH→aG→Prop} (hc:aQ P g (fi++ags.toList.map f.ev++ca) M R) {μ:Mu} {F:c8} {w:World} {a:Act} (hg:dY μ F M w) (hr:gX μ F w n f a)
  {next:Act→World→Prop} {Q':Exit→Act→World→Prop}
  (hret:∀μ' M' w' v u,dQ w μ w' μ'→dY μ' F M' w'→bP μ' F w' u v→R (.ret u) M'→next (a.put o.dst v) w')
  (hpan:∀μ' M' w' v u,dQ w μ w' μ'→dY μ' F M' w'→bP μ' F w' u v→R (.pan u) M'→Q' (.panic [{v,recovered:=false}]) a w'):o.wp P a w next Q':=by
 have hv:=hr.ev x
 rw[hx] at hv
 obtain⟨c1,c2,he,hs1,hs2,h1,h2⟩:=hv.fn_inv
 have hargs:cN μ F w (ags.toList.map f.ev) (ags.map a.eval):=cN.map fun y _=>hr.ev y
 have hall:cN μ F w (fi++ags.toList.map f.ev++ca) (c1++ags.map a.eval++c2):=(cN.app ⟨hs1,h1⟩ hargs).app ⟨hs2,h2⟩
 have hcall:=hc.2 μ F w _ hg hall
 have hrun:(execOp a.eval o).run P w=.ok (.enter g (c1++ags.map a.eval++c2)) w:=by
  simp[execOp,ho,resolve,he,Deferred.ofValue,invoke,jV hc.1]
 unfold Oper.wp
 rw[hrun]
 simp only[Oper.upon]
 refine hcall.mono ?_
 rintro e w' ⟨μ',M',g1,g2,g3⟩
 cases e with
 |returned v=>
  obtain⟨u,g4,g5⟩:=g3
  exact hret μ' M' w' v u g1 g2 g4 g5
 |panicked ch=>
  obtain⟨u,v,rfl,g4,g5⟩:=g3
  exact hpan μ' M' w' v u g1 g2 g4 g5
 |outgrown=>exact g3.elim
section
variable {r:Option Nat} {P:Program} {n:Nat} {ops:Array Oper} {Q:AX→AF→aG→Prop} {rest:List Oper} {o:Oper} {f:AF} {M:aG}
theorem a0l (hw:aT ops f o=some true) (hd:jB f.d o n=true) {x:Operand} {ags:Array Operand} {ts:Array TypeId} (ho:o.op=.call {callee:=.value x,args:=ags,argTypes:=ts}) {g:FuncId} {fi ca:List AV}
  (hx:f.ev x=.fn (.func g) fi ca) {R:cH→aG→Prop} (hc:aQ P g (fi++ags.toList.map f.ev++ca) M R)
  (hret:∀u M',R (.ret u) M'→WL r P n ops Q rest (f.put o.dst u) M') (hpan:∀u M',R (.pan u) M'→Q (.panic u) f M'):WL r P n ops Q (o::rest) f M:=by
 intro μ F w a hg hr Q' hQ
 unfold wpListIn
 rw[iN hr hw,if_pos rfl]
 refine xS (by intro c hc;rw[ho] at hc;cases hc) (a0u ho hx hc hg hr ?_ ?_)
 ·intro μ' M' w' v u g1 g2 g3 g4
  exact hret u M' g4 μ' F w' _ g2 ((hr.evo g1).put (iQ hd) g3) Q' fun e a' w'' hp=>hQ _ _ _ (hp.trans g1)
 ·intro μ' M' w' v u g1 g2 g3 g4
  exact hQ _ _ _ ⟨μ',f,M',.panic u,g1,g2,hr.evo g1,⟨v,rfl,g3⟩,hpan u M' g4⟩
end
def GV:List AV→Nat→List (Nat×AV)
 |[],_=>[]
 |a::r,i=>(i,a)::GV r (i+1)
theorem tB:∀(l:List AV) (k i:Nat),aJ (GV l k) i=if k≤i∧i < k+l.length then l[i - k]? else none
 |[],k,i=>by simp[GV,aJ]
 |a::r,k,i=>by
  simp only[GV,aJ,List.length_cons]
  by_cases h:i=k
  ·subst h
   simp
  ·rw[if_neg h,tB r (k+1) i]
   by_cases h2:k+1≤i∧i < k+1+r.length
   ·rw[if_pos h2,if_pos (by omega)]
    obtain⟨m,rfl⟩:∃m,i=k+1+m:=⟨i - (k+1),by omega⟩
    rw[show k+1+m - (k+1)=m from by omega,show k+1+m - k=m+1 from by omega]
    rfl
   ·rw[if_neg h2,if_neg (by omega)]
def pW (args:List AV):AF:=⟨GV args 0,[]⟩
def mP (τ:Tab) (M:aG) (f:AF):ResultVar→Option AV
 |.tmp t=>some (f.get t)
 |.cell a t=>cX M τ t (f.get a)
def t7 (τ:Tab) (M:aG) (f:AF):List ResultVar→Option (List AV)
 |[]=>some []
 |r::l=>match mP τ M f r,t7 τ M f l with|some x,some xs=>some (x::xs)|_,_=>none
def i5 (τ:Tab) (M:aG) (f:AF) (rs:Array ResultVar):Option AV:=
 match t7 τ M f rs.toList with
 |some [x]=>some x
 |some xs=>some (.tup xs)
 |none=>none
def y2 (tmps:Array Value):ResultVar→Sem Value
 |.tmp t=>pure (tmps.getD t undef)
 |.cell a t=>do loadVar t (←asAddr (tmps.getD a undef))
theorem QL {P:Program} {τ:Tab} (hτ:TabOK P τ) {μ:Mu} {F:c8} {M:aG} {w:World} {n:Nat} {f:AF} {a:Act} (hg:dY μ F M w) (hr:gX μ F w n f a) {r:ResultVar} {x:AV} (h:mP τ M f r=some x):
  ∃v,(y2 a.tmps r).run P w=.ok v w∧bP μ F w x v:=by
 cases r with
 |tmp t=>
  simp only[mP,Option.some.injEq] at h
  subst h
  exact⟨_,rfl,hr.tmps t⟩
 |cell c t=>
  simp only[mP] at h
  obtain⟨b,off,v,hv,hl,hrep⟩:=A2 (P:=P) hτ h hg (hr.tmps c)
  refine⟨v,?_,hrep⟩
  simp only[y2,hv,asAddr,Sem.run_bind,Sem.run_pure,Result.andThen_ok,hl]
theorem JE {P:Program} {τ:Tab} (hτ:TabOK P τ) {μ:Mu} {F:c8} {M:aG} {w:World} {n:Nat} {f:AF} {a:Act} (hg:dY μ F M w) (hr:gX μ F w n f a):∀{rs:List ResultVar} {xs:List AV},t7 τ M f rs=some xs→
  ∃vs:List Value,(rs.mapM (y2 a.tmps)).run P w=.ok vs w∧vs.length=xs.length∧∀(i:Nat) (x:AV) (v:Value),xs[i]? =some x→vs[i]? =some v→bP μ F w x v
 |[],xs,h=>by
  simp only[t7,Option.some.injEq] at h
  subst h
  exact⟨[],by simp,rfl,by simp⟩
 |r::l,xs,h=>by
  simp only[t7] at h
  split at h
  case h_2=>cases h
  rename_i x ys h1 h2
  cases h
  obtain⟨v,hv,hx⟩:=QL (P:=P) hτ hg hr h1
  obtain⟨vs,hvs,hl,hxs⟩:=JE hτ hg hr h2
  refine⟨v::vs,by simp[List.mapM_cons,hv,hvs],by simp[hl],?_⟩
  intro i y u hy hu
  cases i with
  |zero=>simp at hy hu;subst hy;subst hu;exact hx
  |succ i=>exact hxs i y u (by simpa using hy) (by simpa using hu)
theorem jA {P:Program} {τ:Tab} (hτ:TabOK P τ) {μ:Mu} {F:c8} {M:aG} {w:World} {n:Nat} {f:AF} {a:Act} (hg:dY μ F M w) (hr:gX μ F w n f a) {fn:Func} {x:AV} (h:i5 τ M f fn.results=some x):
  ∃v,(results fn a.tmps).run P w=.ok v w∧bP μ F w x v:=by
 unfold i5 at h
 have hres:results fn a.tmps=(do let vs ←fn.results.mapM (y2 a.tmps);pure (if h:vs.size=1 then vs[0] else .tuple vs)):=by
  unfold results
  congr 1
 cases hx:t7 τ M f fn.results.toList with
 |none=>rw[hx] at h;simp at h
 |some xs=>
  rw[hx] at h
  obtain⟨vs,hvs,hl,hxs⟩:=JE (P:=P) hτ hg hr hx
  have hrun:(fn.results.mapM (y2 a.tmps)).run P w=.ok vs.toArray w:=by
   rw[Array.mapM_eq_mapM_toList]
   simp[hvs]
  rw[hres]
  simp only[Sem.run_bind,hrun,Result.andThen_ok,Sem.run_pure]
  match xs,vs,hl,hxs,h with
  |[y],[v],_,hxs,h=>
   simp only[Option.some.injEq] at h
   subst h
   exact⟨v,rfl,hxs 0 y v rfl rfl⟩
  |[],[],_,hxs,h=>
   simp only[Option.some.injEq] at h
   subst h
   exact⟨.tuple #[],rfl,.tup _ _ rfl (by simp)⟩
  |y::z::l,v::u::r,hl,hxs,h=>
   simp only[Option.some.injEq] at h
   subst h
   refine⟨.tuple (v::u::r).toArray,?_,.tup _ _ (by simpa using hl) (fun i x q hx hq=>hxs i x q hx (by simpa using hq))⟩
   rw[dif_neg (by simp)]
def a6n (τ:Tab) (fn:Func) (R:cH→aG→Prop):AX→AF→aG→Prop
 |.normal,f,M|.ret,f,M=>f.d=[]∧∃r,i5 τ M f fn.results=some r∧R (.ret r) M
 |.panic v,f,M=>f.d=[]∧R (.pan v) M
 |.exit _,_,_=>False
theorem fN {μ:Mu} {F:c8} {w:World} {l:List Deferred} (h:fM μ F w [] l):l=[]:=by
 cases l with
 |nil=>rfl
 |cons d r=>exact h.elim
theorem lI {μ:Mu} {F:c8} {w:World} {n:Nat} {args:List AV} {vs:Array Value} (hlen:args.length≤n) (hv:cN μ F w args vs):gX μ F w n (pW args) {tmps:=vs++Array.replicate (n - vs.size) undef,defers:=[]}:=by
 refine⟨by simp[hv.1];omega,?_,trivial,fun p hp=>by cases hp⟩
 intro t
 simp only[AF.get,pW,tB,Nat.zero_le,true_and,Nat.zero_add,Nat.sub_zero]
 by_cases ht:t < args.length
 ·rw[if_pos ht]
  have hvt:t < vs.size:=by rw[hv.1];exact ht
  have h1:=hv.2 t _ _ (List.getElem?_eq_getElem ht) (Array.getElem?_eq_getElem hvt)
  rw[List.getElem?_eq_getElem ht]
  simp only[Option.getD_some]
  rw[Array.getD_eq_getD_getElem?,Array.getElem?_append_left hvt,Array.getElem?_eq_getElem hvt]
  exact h1
 ·rw[if_neg ht]
  exact .top _
theorem aC {P:Program} {τ:Tab} (hτ:TabOK P τ) {g:FuncId} {fn:Func} {c:Code} (hf:P.funcs[g]? =some fn) (hb:fn.body=some c) (hn:fn.name≠ "runtime.NumGoroutine") {args:List AV} {M:aG} {R:cH→aG→Prop}
  (hlen:args.length≤fn.ntmps) (h:W none P fn.ntmps c (a6n τ fn R) (pW args) M):aQ P g args M R:=by
 refine⟨⟨fn,c,hf,hb,hn⟩,fun μ F w vs hg hv=>?_⟩
 refine calls_of_wp hf hb ?_
 have hr:=lI (μ:=μ) (F:=F) (w:=w) hlen hv
 refine wp_mono (yM (h.run μ F w _ hg hr)) ?_
 rintro e a' w' ⟨μ',f',M',x,h1,h2,h3,h4,h5⟩
 cases e with
 |normal=>
  cases x<;>first|exact h4.elim|skip
  obtain⟨hd,r,hr',hR⟩:=h5
  obtain⟨v,hv',hrep⟩:=jA (P:=P) hτ h2 h3 hr'
  have hdd:=h3.defs
  rw[hd] at hdd
  exact⟨fN hdd,v,hv',μ',M',h1,h2,r,hrep,hR⟩
 |exit id=>cases x<;>first|exact h4.elim|exact h5.elim
 |goto l=>cases x<;>exact h4.elim
 |ret=>
  cases x<;>first|exact h4.elim|skip
  obtain⟨hd,r,hr',hR⟩:=h5
  obtain⟨v,hv',hrep⟩:=jA (P:=P) hτ h2 h3 hr'
  have hdd:=h3.defs
  rw[hd] at hdd
  exact⟨fN hdd,v,hv',μ',M',h1,h2,r,hrep,hR⟩
 |panic ch=>
  cases x<;>first|exact h4.elim|skip
  obtain⟨hd,hR⟩:=h5
  obtain⟨v,rfl,hrep⟩:=h4
  have hdd:=h3.defs
  rw[hd] at hdd
  exact⟨fN hdd,μ',M',h1,h2,_,v,rfl,hrep,hR⟩
 |outgrown=>cases x<;>exact h4.elim
def aN (x:AV):Prop:=∀(μ μ':Mu) (F F':c8) (w:World) (v:Value),(∀b o,iO μ F b o→iO μ' F' b o)→bP μ F w x v→bP μ' F' w x v
theorem aB {k:IntKind} {n:Int}:aN (.int k n):=by intro μ μ' F F' w v hf h;cases h;exact .int _ _
theorem aK {b:Bool}:aN (.bool b):=by intro μ μ' F F' w v hf h;cases h;exact .bool _
theorem aP {s:List UInt8}:aN (.str s):=by intro μ μ' F F' w v hf h;cases h;exact .str _
theorem dO:aN .nilptr:=by intro μ μ' F F' w v hf h;cases h;exact .nilptr
theorem jL:aN .nilIface:=by intro μ μ' F F' w v hf h;cases h;exact .nilIface
theorem xP:aN .nilFunc:=by intro μ μ' F F' w v hf h;cases h;exact .nilFunc
theorem BF:aN .nilmap:=by intro μ μ' F F' w v hf h;cases h;exact .nilmap
theorem N7:aN .top:=by intro μ μ' F F' w v hf h;exact .top _
theorem mA {t:TypeId} {x:AV} (hx:aN x):aN (.iface t x):=by
 intro μ μ' F F' w v hf h
 cases h with
 |iface _ _ u hu=>exact .iface _ _ _ (hx μ μ' F F' w u hf hu)
theorem bU {l:List AV} (hl:∀x,x∈l→aN x):aN (.agg l):=by
 intro μ μ' F F' w v hf h
 obtain⟨c,rfl,h1,h2,h3⟩:=h.agg_inv
 exact .agg _ _ h1 (fun i x u hx hu=>hl x (List.mem_of_getElem? hx) μ μ' F F' w u hf (h2 i x u hx hu)) h3
theorem aS {l:List AV} (hl:∀x,x∈l→aN x):aN (.tup l):=by
 intro μ μ' F F' w v hf h
 obtain⟨c,rfl,h1,h2⟩:=h.tup_inv
 exact .tup _ _ h1 (fun i x u hx hu=>hl x (List.mem_of_getElem? hx) μ μ' F F' w u hf (h2 i x u hx hu))
theorem DJ {g:Fn} {l1 l2:List AV} (h1:∀x,x∈l1→aN x) (h2:∀x,x∈l2→aN x):aN (.fn g l1 l2):=by
 intro μ μ' F F' w v hf h
 obtain⟨c1,c2,rfl,g1,g2,g3,g4⟩:=h.fn_inv
 exact .fn _ _ _ _ _ g1 g2 (fun i x u hx hu=>h1 x (List.mem_of_getElem? hx) μ μ' F F' w u hf (g3 i x u hx hu)) (fun i x u hx hu=>h2 x (List.mem_of_getElem? hx) μ μ' F F' w u hf (g4 i x u hx hu))
theorem fX {l:List AV} (hl:∀x,x∈l→aN x):aN (.ref l):=by
 intro μ μ' F F' w v hf h
 obtain⟨b,o,vals,rfl,h1,h2,h3⟩:=h.ref_inv
 exact .ref _ _ _ vals h1 (fun j c hc=>⟨(h2 j c hc).1,hf _ _ (h2 j c hc).2⟩) (fun j c hc=>hl c (List.mem_of_getElem? hc) μ μ' F F' w _ hf (h3 j c hc))
theorem bR {sz:Nat} {xs:List AV} {t:eE} (ht:t=.none∨t=.full) (hl:∀x,x∈xs→aN x) (hc:∀x,x∈xs→(∀c,c∈x.cells→aN c)):aN (.sl sz xs t):=by
 intro μ μ' F F' w v hf h
 obtain⟨A,cap,ad,vals,rfl,h1,h2,h3,h4,h5,h6,h7⟩:=h.sl_inv
 refine .sl _ _ _ _ _ ad vals h1 h2 h3 h4 (fun i x j c hx hj=>⟨(h5 i x j c hx hj).1,hf _ _ (h5 i x j c hx hj).2⟩)
  (fun i x j c hx hj=>hc x (List.mem_of_getElem? hx) c (List.mem_of_getElem? hj) μ μ' F F' w _ hf (h6 i x j c hx hj)) ?_
 rcases ht with rfl|rfl
 ·trivial
 ·exact h7
theorem tQ {μ:Mu} {F:c8} {w:World} {sz:Nat} {xs:List AV} {t:eE} {v:Value} (h:bP μ F w (.sl sz xs t) v):bP μ F w (.sl sz xs .none) v:=by
 obtain⟨A,cap,ad,vals,rfl,h1,h2,h3,h4,h5,h6,h7⟩:=h.sl_inv
 exact .sl _ _ _ _ _ ad vals h1 h2 h3 h4 h5 h6 trivial
theorem sS {P:Program} {g:FuncId} {args:List AV} {R:cH→Prop} (ha:∀x,x∈args→aN x) (h:aQ P g args ⟨0,[]⟩ fun e _=>R e) (hR:∀e,R e→match e with|.ret x=>aN x|.pan x=>aN x) (M:aG):
  aQ P g args M fun e M'=>R e∧M'=M:=by
 refine⟨h.1,fun μ F w vs hg hv=>?_⟩
 let μ0:Mu:=fun _=>none
 let F0:c8:=fun b o=>F b o∨jG μ b o
 have hno:∀b o,¬jG μ0 b o:=by rintro b o ⟨id,h|⟨e,g,h,_⟩⟩<;>cases h
 have hfree:∀b o,iO μ F b o→iO μ0 F0 b o:=fun b o hf=>⟨fun h=>h.elim hf.1 hf.2,hno b o⟩
 have hg0:dY μ0 F0 ⟨0,[]⟩ w:=by
  refine {dom:=fun id=>(by simp[μ0]),obj:=fun id l hM=>(by cases hM),spare:=fun id g hM=>(by cases hM),raw:=fun id g o vs t hM=>(by cases hM),inj:=?_,frm:=fun b o ho=>absurd ho (hno b o),fit:=⟨fun b o ho=>absurd ho (hno b o),?_⟩}
  ·rintro i j b (h|⟨_,_,h⟩) _<;>cases h
  ·rintro b o (h|h)
   ·exact hg.fit.frm b o h
   ·exact hg.fit.own b o h
 refine (h.2 μ0 F0 w vs hg0 ⟨hv.1,fun i x v hx hv'=>ha x (List.mem_of_getElem? hx) μ μ0 F F0 w v hfree (hv.2 i x v hx hv')⟩).mono ?_
 rintro e w' ⟨μ',M',h1,h2,h3⟩
 have hb:Below w.heap.size w w':=⟨h1.os,h1.tape,h1.output,h1.size,fun k hk=>h1.same k hk (hno k)⟩
 have hfree':∀b o,iO μ' F0 b o→iO μ F b o:=fun b o hf=>⟨fun h=>hf.1 (.inl h),fun h=>hf.1 (.inr h)⟩
 refine⟨μ,M,dQ.of_below μ hb,hg.below hb,?_⟩
 cases e with
 |returned v=>
  obtain⟨x,h4,h5⟩:=h3
  exact⟨x,hR _ h5 μ' μ F0 F w' v hfree' h4,h5,rfl⟩
 |panicked ch=>
  obtain⟨x,v,h4,h5,h6⟩:=h3
  exact⟨x,v,h4,hR _ h6 μ' μ F0 F w' v hfree' h5,h6,rfl⟩
 |outgrown=>exact h3
theorem TH {P:Program} {g:FuncId} {args:List AV} {r:AV} (ha:∀x,x∈args→aN x) (hr:aN r) (h:aQ P g args ⟨0,[]⟩ fun e _=>e=.ret r):aO P g args r:=
 fun M=>sS (R:=fun e=>e=.ret r) ha h (fun e he=>by subst he;exact hr) M
end Go.Ab
