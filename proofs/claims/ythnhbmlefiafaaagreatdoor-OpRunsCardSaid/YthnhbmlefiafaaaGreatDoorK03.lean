/- Parts of the proof, one behind the other. No further condition. -/
import Derived.Test.YthnhbmlefiafaaaGreatDoorK02
import Derived.RangeFuncLeaves
import Derived.RangeFuncOne
import Derived.RangeFuncCalls
import Derived.OrdersIn
import Derived.TacticsIn
import Derived.Test.YthnhbmlefiafaaaGreatDoorProg
import Derived.KernelRfl
set_option linter.unusedVariables false
set_option linter.unusedSimpArgs false
set_option maxRecDepth 100000
set_option maxHeartbeats 8000000
namespace Go.Ab
open Go.RowKit
inductive AX where
 |normal
 |exit (id:Nat)
 |ret
 |panic (v:AV)
inductive dG where
 |ret (v:AV)
 |pan (v:AV)
def dB (μ:Mu) (F:cO) (w:World) (l:List AV) (c:Array Value):Prop:=
 c.size=l.length∧∀(i:Nat) (x:AV) (v:Value),l[i]? =some x→c[i]? =some v→bR μ F w x v
theorem dB.evo {μ μ':Mu} {F:cO} {w w':World} (hev:eB w μ w' μ') {l:List AV} {c:Array Value} (h:dB μ F w l c):dB μ' F w' l c:=
 ⟨h.1,fun i x v hx hv=>(h.2 i x v hx hv).evo hev⟩
theorem dB.nil {μ:Mu} {F:cO} {w:World}:dB μ F w [] #[]:=⟨rfl,by simp⟩
theorem dB.app {μ:Mu} {F:cO} {w:World} {l m:List AV} {c d:Array Value} (h:dB μ F w l c) (k:dB μ F w m d):dB μ F w (l++m) (c++d):=by
 refine⟨by simp[h.1,k.1],?_⟩
 intro i x v hx hv
 by_cases hi:i < l.length
 ·rw[List.getElem?_append_left hi] at hx
  rw[Array.getElem?_append_left (by rw[h.1];exact hi)] at hv
  exact h.2 i x v hx hv
 ·rw[List.getElem?_append_right (by omega)] at hx
  rw[Array.getElem?_append_right (by rw[h.1];omega),h.1] at hv
  exact k.2 _ x v hx hv
theorem dB.cons {μ:Mu} {F:cO} {w:World} {x:AV} {v:Value} (h:bR μ F w x v):dB μ F w [x] #[v]:=by
 refine⟨rfl,?_⟩
 intro i y u hy hu
 cases i with
 |zero=>simp at hy hu;subst hy;subst hu;exact h
 |succ i=>simp at hy
theorem dB.map {μ:Mu} {F:cO} {w:World} {ρ:Operand→AV} {ρc:Operand→Value} {xs:Array Operand} (h:∀x∈xs,bR μ F w (ρ x) (ρc x)):dB μ F w (xs.toList.map ρ) (xs.map ρc):=by
 refine⟨by simp,?_⟩
 intro i x v hx hv
 simp only[List.getElem?_map,Array.getElem?_toList,Array.getElem?_map] at hx hv
 cases e:xs[i]? with
 |none=>simp[e] at hx
 |some y=>
  simp[e] at hx hv
  subst hx;subst hv
  exact h y (Array.mem_of_getElem? e)
structure bH where
 f:Fn
 cap:List AV
 args:List AV
 keep:List (Nat×AV):=[]
 mark:Option Nat:=none
def dE:List bH→List (Nat×AV)
 |[]=>[]
 |d::r=>d.keep++dE r
structure FL (μ:Mu) (F:cO) (w:World) (x:bH) (d:Deferred):Prop where
 tgt:x.mark=none→∃c,d.target=.fn x.f c∧dB μ F w x.cap c
 args:dB μ F w x.args d.args
 mrk:∀y,x.mark=some y→μ y≠none∧∀b,μ y=some (.at b)→d.target=.collected b
def fY (μ:Mu) (F:cO) (w:World):List bH→List Deferred→Prop
 |[],[]=>True
 |x::l,d::r=>FL μ F w x d∧fY μ F w l r
 |_,_=>False
theorem fY.evo {μ μ':Mu} {F:cO} {w w':World} (hev:eB w μ w' μ'):∀{l:List bH} {r:List Deferred},fY μ F w l r→fY μ' F w' l r
 |[],[],_=>trivial
 |_::_,_::_,⟨⟨h1,h3,h5⟩,h4⟩=>⟨⟨fun h=>(h1 h).imp fun _ h=>⟨h.1,h.2.evo hev⟩,h3.evo hev,fun y hy=>by
   obtain⟨k1,k2⟩:=h5 y hy
   rcases hev.mu y k1 with h'|h'|⟨_,_,_,_,_,h',_⟩
   ·rw[h']
    exact⟨k1,k2⟩
   ·exact⟨by rw[h'];simp,fun b hb=>by rw[h'] at hb;cases hb⟩
   ·exact⟨by rw[h'];simp,fun b hb=>by rw[h'] at hb;cases hb⟩⟩,fY.evo hev h4⟩
structure AF where
 t:List (Nat×AV)
 d:List bH
def AF.get (f:AF) (i:Nat):AV:=(aK f.t i).getD .top
def AF.ev (f:AF):Operand→AV
 |.tmp t=>f.get t
 |.const v=>PL v
 |.global _=>.top
 |.func g=>.fn (.func g) [] []
def AF.put (f:AF) (dst:Option Tmp) (x:AV):AF:=
 match dst with
 |some d=>⟨(d,x)::f.t,f.d⟩
 |none=>f
structure iM (μ:Mu) (F:cO) (w:World) (n:Nat) (f:AF) (a:Act):Prop where
 size:a.tmps.size=n
 tmps:∀t,bR μ F w (f.get t) (a.tmps.getD t undef)
 defs:fY μ F w f.d a.defers
 kept:∀p,p∈dE f.d→bR μ F w p.2 (a.tmps.getD p.1 undef)
theorem iM.evo {μ μ':Mu} {F:cO} {w w':World} (hev:eB w μ w' μ') {n:Nat} {f:AF} {a:Act} (h:iM μ F w n f a):iM μ' F w' n f a:=
 ⟨h.size,fun t=>(h.tmps t).evo hev,h.defs.evo hev,fun p hp=>(h.kept p hp).evo hev⟩
theorem iM.ev {μ:Mu} {F:cO} {w:World} {n:Nat} {f:AF} {a:Act} (h:iM μ F w n f a) (x:Operand):bR μ F w (f.ev x) (a.eval x):=by
 cases x with
 |tmp t=>exact h.tmps t
 |const v=>exact QO _ _ _ _
 |global g=>exact .top _
 |func g=>exact .fn _ _ _ _ _ rfl rfl (by simp) (by simp)
theorem iM.put {μ:Mu} {F:cO} {w:World} {n:Nat} {f:AF} {a:Act} (h:iM μ F w n f a) {dst:Option Tmp} (hd:∀d,dst=some d→d < n∧∀p,p∈dE f.d→p.1≠d) {x:AV} {v:Value} (hr:bR μ F w x v):iM μ F w n (f.put dst x) (a.put dst v):=by
 cases dst with
 |none=>exact h
 |some d=>
  obtain⟨hlt,hk⟩:=hd d rfl
  refine⟨by simp[Act.put,h.size],?_,h.defs,fun p hp=>by
   have:=h.kept p hp
   simp only[Act.put]
   rw[Array.getD_eq_getD_getElem?,Array.getElem?_setIfInBounds_ne (Ne.symm (hk p hp)),←Array.getD_eq_getD_getElem?]
   exact this⟩
  intro t
  simp only[AF.put,AF.get,aK,Act.put]
  by_cases ht:t=d
  ·subst ht
   have:t < a.tmps.size:=by rw[h.size];exact hlt
   simp[Array.getElem?_setIfInBounds,this,hr]
  ·rw[if_neg ht]
   have:=h.tmps t
   rw[Array.getD_eq_getD_getElem?,Array.getElem?_setIfInBounds_ne (by omega),←Array.getD_eq_getD_getElem?]
   exact this
def Sub (x y:AV):Prop:=∀(μ:Mu) (F:cO) (w:World) (v:Value),bR μ F w x v→bR μ F w y v
theorem Sub.refl {x:AV}:Sub x x:=fun _ _ _ _ h=>h
theorem Sub.top {x:AV}:Sub x .top:=fun _ _ _ v _=>.top v
theorem Sub.of_eq {x y:AV} (h:x=y):Sub x y:=by subst h;exact Sub.refl
def AF.le (g f:AF):Prop:=g.d=f.d∧∀t,Sub (f.get t) (g.get t)
theorem iM.le {μ:Mu} {F:cO} {w:World} {n:Nat} {f g:AF} {a:Act} (h:iM μ F w n f a) (hg:g.le f):iM μ F w n g a:=
 ⟨h.size,fun t=>hg.2 t _ _ _ _ (h.tmps t),by rw[hg.1];exact h.defs,by rw[hg.1];exact h.kept⟩
def aI.le (N M:aI):Prop:=N.next=M.next∧∀i o,N.get i=some o→M.get i=some o
theorem eP.le {μ:Mu} {F:cO} {M N:aI} {w:World} (h:eP μ F M w) (hl:N.le M):eP μ F N w:=
 ⟨fun id=>by rw[hl.1];exact h.dom id,fun id l hM=>h.obj id l (hl.2 id _ hM),fun id g hM=>h.spare id g (hl.2 id _ hM),h.inj,h.frm,h.fit,fun id g o vs t hM=>h.raw id g o vs t (hl.2 id _ hM)⟩
def aM (n0:Nat) (f:AF) (M:aI) (g:AF) (N:aI):Prop:=
 ∀(μ0 μ:Mu) (F:cO) (w0 w:World) (n:Nat) (a:Act),(∀id,μ0 id≠none→id < n0)→eB w0 μ0 w μ→eP μ F M w→iM μ F w n f a→∃μ',eB w0 μ0 w μ'∧eP μ' F N w∧iM μ' F w n g a
theorem aM.refl {n0:Nat} {f:AF} {M:aI}:aM n0 f M f M:=fun μ0 μ F w0 w n a _ he hg hr=>⟨μ,he,hg,hr⟩
theorem aM.trans {n0:Nat} {f g h:AF} {M N L:aI} (h1:aM n0 f M g N) (h2:aM n0 g N h L):aM n0 f M h L:=by
 intro μ0 μ F w0 w n a hn he hg hr
 obtain⟨μ1,e1,g1,r1⟩:=h1 μ0 μ F w0 w n a hn he hg hr
 exact h2 μ0 μ1 F w0 w n a hn e1 g1 r1
theorem aM.le {n0:Nat} {f g:AF} {M N:aI} (hf:g.le f) (hM:N.le M):aM n0 f M g N:=fun μ0 μ F w0 w n a _ he hg hr=>⟨μ,he,hg.le hM,hr.le hf⟩
def EU (μ:Mu) (F:cO) (w:World):Exit→AX→Prop
 |.normal,.normal=>True
 |.exit i,.exit j=>i=j
 |.ret,.ret=>True
 |.panic ch,.panic x=>∃v,ch=[{v,recovered:=false}]∧bR μ F w x v
 |_,_=>False
def HU (n:Nat) (Q:AX→AF→aI→Prop) (μ:Mu) (F:cO) (w:World):Exit→Act→World→Prop:=
 fun e a' w'=>∃μ' f' M' x,eB w μ w' μ'∧eP μ' F M' w'∧iM μ' F w' n f' a'∧EU μ' F w' e x∧Q x f' M'
def B1 (r:Option Nat):Fence:={Fence.wide with round:=r}
theorem XS {r:Option Nat} {n m:Nat} {P:Program} {c:Code} {Q:Exit→Act→World→Prop} {a:Act} {w:World} (h:c.wpIn (B1 r) n P Q a w):c.wpIn (B1 r) m P Q a w:=
 fun b k cs h1 h2 _=>h b k cs h1 h2 (fun d hd=>by cases hd)
theorem A4 {n:Nat} {P:Program} {c:Code} {Q:Exit→Act→World→Prop} {a:Act} {w:World} (h:c.wpIn (B1 none) n P Q a w):c.wp P Q a w:=(wpIn_wide (n:=n)).1 h
theorem HA {r:Option Nat} {n:Nat} {P:Program} {g:FuncId} {vs:Array Value} {w:World} {R:Ending→World→Prop} (h:Calls P g vs w R):CallsIn (B1 r) n P g vs w R:=callsIn_wide.2 h
theorem CC {r:Option Nat} {P:Program} {ρ:Operand→Value} {o:Oper} {w w':World} {nx:Next} (h:(execOp ρ o).run P w=.ok nx w') (hn:∀d,nx≠.defer d):(o.semAt r ρ).run P w=.ok nx w':=by
 rw[Oper.semAt_eq r ρ o,h]
 intro c hc
 simp only[execOp,hc,Sem.run_bind] at h
 cases hr:(resolve ρ c o.type).run P w with
 |halt x w2=>rw[hr] at h;simp[Result.andThen] at h
 |ok d w2=>rw[hr] at h;simp[Result.andThen] at h;exact hn d h.1.symm
theorem H3 {r:Option Nat} {P:Program} {o:Oper} {a:Act} {w w':World} {next:Act→World→Prop} {Q:Exit→Act→World→Prop} {v:Value} {nx:Next} (h:(execOp a.eval o).run P w=.ok nx w') (hv:nx=.value v∨nx=.skip∧v=undef)
  (hk:next (a.put o.dst v) w'):o.wpIn (B1 r) 9 P a w next Q:=by
 refine⟨fun _ _=>trivial,?_⟩
 have:=CC (r:=r) h (by rcases hv with rfl|⟨rfl,rfl⟩<;>intro d e<;>cases e)
 show o.uponIn (B1 r) 9 P a next Q ((o.semAt r a.eval).run P w)
 rw[this]
 rcases hv with rfl|⟨rfl,rfl⟩<;>exact hk
theorem a35 {r:Option Nat} {n:Nat} {P:Program} {row:String} {vs:Array Value} {w:World} {R:Value→World→Prop} (h:Rows P row vs w R):RowsIn (B1 r) n P row vs w R:=by
 intro c cs _
 obtain⟨v,w',h1,h2⟩:=h c cs
 exact⟨v,w',h1,stepsIn_wide.2 h2⟩
theorem O2 {r:Option Nat} {n:Nat} {P:Program} {o:Oper} {a:Act} {w:World} {next:Act→World→Prop} {Q:Exit→Act→World→Prop} (hnd:∀c,o.op≠.defer c) (h:o.wp P a w next Q):o.wpIn (B1 r) n P a w next Q:=by
 refine⟨fun _ _=>trivial,?_⟩
 show o.uponIn (B1 r) n P a next Q ((o.semAt r a.eval).run P w)
 rw[Oper.semAt_eq r _ o hnd]
 unfold Oper.wp at h
 generalize (execOp a.eval o).run P w=res at h
 cases res with
 |ok x w'=>
  cases x<;>simp only[Oper.upon,Oper.uponIn] at h ⊢<;>
   first
    |exact h
    |exact⟨fun e=>(by cases e),HA h⟩
    |exact⟨fun e=>(by cases e),a35 h⟩
    |exact h.elim
 |halt x w'=>cases x<;>simp only[Oper.upon,Oper.uponIn] at h ⊢<;>first|exact h|exact h.elim
structure W (r:Option Nat) (P:Program) (n:Nat) (c:Code) (Q:AX→AF→aI→Prop) (f:AF) (M:aI):Prop where
 run:∀(μ:Mu) (F:cO) (w:World) (a:Act),eP μ F M w→iM μ F w n f a→c.wpIn (B1 r) 9 P (HU n Q μ F w) a w
theorem HU.trans {n:Nat} {Q:AX→AF→aI→Prop} {μ μ1:Mu} {F:cO} {w w1:World} (h:eB w μ w1 μ1) {e:Exit} {a:Act} {w':World} (hp:HU n Q μ1 F w1 e a w'):HU n Q μ F w e a w':=by
 obtain⟨μ',f',M',x,h1,h2,h3,h4,h5⟩:=hp
 exact⟨μ',f',M',x,h.trans h1,h2,h3,h4,h5⟩
theorem W.mono {r:Option Nat} {P:Program} {n:Nat} {c:Code} {Q Q':AX→AF→aI→Prop} {f:AF} {M:aI} (h:W r P n c Q f M) (hq:∀x f M,Q x f M→Q' x f M):W r P n c Q' f M:=
 ⟨fun μ F w a hg hr=>wpIn_mono (h.run μ F w a hg hr) fun e a' w' ⟨μ',f',M',x,h1,h2,h3,h4,h5⟩=>⟨μ',f',M',x,h1,h2,h3,h4,hq x f' M' h5⟩⟩
theorem W.le {r:Option Nat} {P:Program} {n:Nat} {c:Code} {Q:AX→AF→aI→Prop} {f g:AF} {M N:aI} (hf:g.le f) (hM:N.le M) (h:W r P n c Q g N):W r P n c Q f M:=
 ⟨fun μ F w a hg hr=>h.run μ F w a (hg.le hM) (hr.le hf)⟩
section
variable {r:Option Nat} {P:Program} {n:Nat} {Q:AX→AF→aI→Prop} {f:AF} {M:aI}
theorem a4m (h:Q .normal f M):W r P n .skip Q f M:=
 ⟨fun μ F w a hg hr=>wpIn_skip ⟨μ,f,M,.normal,eB.refl _ _,hg,hr,trivial,h⟩⟩
theorem a93 (h:Q .ret f M):W r P n .ret Q f M:=
 ⟨fun μ F w a hg hr=>wpIn_ret ⟨μ,f,M,.ret,eB.refl _ _,hg,hr,trivial,h⟩⟩
theorem a6t {id:Nat} (h:Q (.exit id) f M):W r P n (.exit id) Q f M:=
 ⟨fun μ F w a hg hr=>wpIn_exit ⟨μ,f,M,.exit id,eB.refl _ _,hg,hr,rfl,h⟩⟩
def t7 (K:AF→aI→Prop) (Q:AX→AF→aI→Prop):AX→AF→aI→Prop
 |.normal,f,M=>K f M
 |x,f,M=>Q x f M
theorem a96 {c d:Code} (h:W r P n c (t7 (fun f M=>W r P n d Q f M) Q) f M):W r P n (.seq c d) Q f M:=by
 refine⟨fun μ F w a hg hr=>?_⟩
 refine wpIn_seq (wpIn_mono (h.run μ F w a hg hr) ?_)
 rintro e a' w' ⟨μ',f',M',x,h1,h2,h3,h4,h5⟩
 cases e with
 |normal=>
  cases x<;>simp only[EU] at h4
  exact wpIn_mono (h5.run μ' F w' a' h2 h3) fun e a w hp=>hp.trans h1
 |exit id=>cases x<;>first|exact h4.elim|exact⟨μ',f',M',_,h1,h2,h3,h4,h5⟩
 |goto l=>cases x<;>exact h4.elim
 |ret=>cases x<;>first|exact h4.elim|exact⟨μ',f',M',_,h1,h2,h3,h4,h5⟩
 |panic ch=>cases x<;>first|exact h4.elim|exact⟨μ',f',M',_,h1,h2,h3,h4,h5⟩
 |outgrown=>cases x<;>exact h4.elim
def M8 (id:Nat) (Q:AX→AF→aI→Prop):AX→AF→aI→Prop
 |.exit j,f,M=>if j=id then Q .normal f M else Q (.exit j) f M
 |x,f,M=>Q x f M
theorem a2t {id:Nat} {c:Code} (h:W r P n c (M8 id Q) f M):W r P n (.block id c) Q f M:=by
 refine⟨fun μ F w a hg hr=>?_⟩
 refine wpIn_block (wpIn_mono (h.run μ F w a hg hr) ?_)
 rintro e a' w' ⟨μ',f',M',x,h1,h2,h3,h4,h5⟩
 cases e with
 |normal=>cases x<;>simp only[EU] at h4;exact⟨μ',f',M',.normal,h1,h2,h3,trivial,h5⟩
 |exit j=>
  cases x<;>simp only[EU] at h4
  subst h4
  simp only[Exit.inBlock,M8] at h5 ⊢
  split
  ·rename_i e
   rw[if_pos e] at h5
   exact⟨μ',f',M',.normal,h1,h2,h3,trivial,h5⟩
  ·rename_i e
   rw[if_neg e] at h5
   exact⟨μ',f',M',.exit j,h1,h2,h3,rfl,h5⟩
 |goto l=>cases x<;>exact h4.elim
 |ret=>cases x<;>first|exact h4.elim|exact⟨μ',f',M',_,h1,h2,h3,h4,h5⟩
 |panic ch=>cases x<;>first|exact h4.elim|exact⟨μ',f',M',_,h1,h2,h3,h4,h5⟩
 |outgrown=>cases x<;>exact h4.elim
theorem W2 {c:Operand} {d e:Code} {b:Bool} (hc:f.ev c=.bool b) (h1:b=true→W r P n d Q f M) (h2:b=false→W r P n e Q f M):W r P n (.cond c d e) Q f M:=by
 refine⟨fun μ F w a hg hr=>?_⟩
 have hv:=hr.ev c
 rw[hc] at hv
 generalize hva:a.eval c=v at hv
 cases hv
 exact wpIn_cond_split hva (fun h=>(h1 h).run μ F w a hg hr) (fun h=>(h2 h).run μ F w a hg hr)
theorem a6f {c:Operand} {d e:Code} (hc:f.ev c=.bool true) (h1:W r P n d Q f M):W r P n (.cond c d e) Q f M:=W2 hc (fun _=>h1) (fun h=>by cases h)
theorem a3b {c:Operand} {d e:Code} (hc:f.ev c=.bool false) (h1:W r P n e Q f M):W r P n (.cond c d e) Q f M:=W2 hc (fun h=>by cases h) (fun _=>h1)
theorem lN {c:Code} {g:AF} {N:aI} (hj:aM M.next f M g N) (h:W r P n c Q g N):W r P n c Q f M:=by
 refine⟨fun μ F w a hg hr=>?_⟩
 obtain⟨μ',e,hg',hr'⟩:=hj μ μ F w w n a (fun id h=>(hg.dom id).1 h) (eB.refl _ _) hg hr
 exact wpIn_mono (h.run μ' F w a hg' hr') fun e' a' w' hp=>hp.trans e
theorem lV {c:Code} (I:Nat→AF→aI→Prop) {k:Nat} {f0:AF} {M0:aI} (h0:I k f0 M0) (hj:aM M.next f M f0 M0)
  (round:∀k f' N,I k f' N→W r P n c (t7 (fun f1 M1=>∃k' f'' M'',k' < k∧I k' f'' M''∧aM M.next f1 M1 f'' M'') Q) f' N):W r P n (.loop c) Q f M:=by
 refine⟨fun μ F w a hg hr=>?_⟩
 have hdom:∀id,μ id≠none→id < M.next:=fun id h=>(hg.dom id).1 h
 let J:Nat→Act→World→Prop:=fun k a' w'=>∃μ' f' M',eB w μ w' μ'∧eP μ' F M' w'∧iM μ' F w' n f' a'∧I k f' M'
 intro b K cs hro hb hrm
 have key:∀(k:Nat) (a':Act) (w':World),J k a' w'→∃e a2 w2,HU n Q μ F w e a2 w2∧ArrivesIn (Machine.fenced P (B1 r)) P (lone (b.atR a' (.code c::.inLoop c::K)) cs w') b K cs e a2 w2:=by
  intro k
  induction k using Nat.strongRecOn with
  |_ k ih=>
   intro a' w' ⟨μ',f',M',h1,h2,h3,h4⟩
   obtain⟨e,a1,w1,⟨μ1,f1,M1,x,g1,g2,g3,g4,g5⟩,harr⟩:=(round k f' M' h4).run μ' F w' a' h2 h3 b (.inLoop c::K) cs hro hb hrm
   have hev:=h1.trans g1
   cases e with
   |normal=>
    cases x<;>simp only[EU] at g4
    obtain⟨k',f'',M'',hlt,hI,hjj⟩:=g5
    obtain⟨μ2,j1,j2,j3⟩:=hjj μ μ1 F w w1 n a1 hdom hev g2 g3
    obtain⟨e2,a2,w2,hq2,harr2⟩:=ih k' hlt a1 w1 ⟨μ2,f'',M'',j1,j2,j3,hI⟩
    exact⟨e2,a2,w2,hq2,.of_steps (StepsIn.trans harr (.one (fenced_calm hb hrm rfl) stepR_inLoop)) harr2⟩
   |exit id=>
    cases x<;>first|exact g4.elim|skip
    exact⟨_,a1,w1,⟨μ1,f1,M1,_,hev,g2,g3,g4,g5⟩,.pass (x:=.inLoop c) rfl (fun _ _=>.inl (by simp)) harr⟩
   |goto l=>cases x<;>exact g4.elim
   |ret=>
    cases x<;>first|exact g4.elim|skip
    exact⟨_,a1,w1,⟨μ1,f1,M1,_,hev,g2,g3,g4,g5⟩,.pass (x:=.inLoop c) rfl (fun _ _=>.inl (by simp)) harr⟩
   |panic ch=>
    cases x<;>first|exact g4.elim|skip
    exact⟨_,a1,w1,⟨μ1,f1,M1,_,hev,g2,g3,g4,g5⟩,.pass (x:=.inLoop c) rfl (fun _ _=>.inl (by simp)) harr⟩
   |outgrown=>cases x<;>exact g4.elim
 obtain⟨μ0,j1,j2,j3⟩:=hj μ μ F w w n a hdom (eB.refl _ _) hg hr
 obtain⟨e,a',w',hq,harr⟩:=key k a w ⟨μ0,f0,M0,j1,j2,j3,h0⟩
 exact⟨e,a',w',hq,.of_steps (.one (fenced_calm hb hrm rfl) stepR_loop) harr⟩
end
end Go.Ab
namespace Go.Ab
open Go.RowKit
def WL (r:Option Nat) (P:Program) (n:Nat) (ops:Array Oper) (Q:AX→AF→aI→Prop) (rest:List Oper) (f:AF) (M:aI):Prop:=
 ∀(μ:Mu) (F:cO) (w:World) (a:Act),eP μ F M w→iM μ F w n f a→∀Q':Exit→Act→World→Prop,(∀e a' w',HU n Q μ F w e a' w'→Q' e a' w')→wpListIn (B1 r) 9 P ops Q' rest a w
def aV (ops:Array Oper) (f:AF) (o:Oper):Option Bool:=
 match o.guard with
 |none=>some true
 |some (j,b)=>
  match (ops[j]?).bind (·.dst) with
  |some d=>(match f.get d with|.bool c=>some (c==b)|.tup []=>some false|_=>none)
  |none=>none
theorem vI {μ:Mu} {F:cO} {w:World}:bR μ F w (.tup []) undef:=.tup _ _ rfl (by simp)
theorem sW {μ:Mu} {F:cO} {w:World} {ops:Array Oper} {o:Oper} {tmps:Array Value} {j d:Nat} {want:Bool} (hg:o.guard=some (j,want)) (hd:(ops[j]?).bind (·.dst)=some d) (hv:bR μ F w (.tup []) (tmps.getD d undef)):
  Region.wanted o (yielded ops tmps)=false:=by
 simp only[Region.wanted,hg,yielded,hd,Option.bind_some]
 cases ht:tmps[d]? with
 |none=>rfl
 |some u=>
  rw[Array.getD_eq_getD_getElem?,ht] at hv
  simp only[Option.getD_some] at hv
  obtain⟨c,rfl,_⟩:=hv.tup_inv
  rfl
theorem kM {μ:Mu} {F:cO} {w:World} {n:Nat} {f:AF} {a:Act} (hr:iM μ F w n f a) {ops:Array Oper} {o:Oper} {b:Bool} (h:aV ops f o=some b):Region.wanted o (yielded ops a.tmps)=b:=by
 unfold aV at h
 split at h
 ·rename_i hg
  cases h
  simp[Region.wanted,hg]
 ·rename_i j want hg
  split at h
  ·rename_i d hd
   split at h
   ·rename_i c hc
    cases h
    have hv:=hr.tmps d
    rw[hc] at hv
    generalize hu:a.tmps.getD d undef=u at hv
    cases hv
    have hlt:d < a.tmps.size:=by
     rcases Nat.lt_or_ge d a.tmps.size with h|h
     ·exact h
     ·simp[Array.getD,Nat.not_lt.2 h,undef] at hu
    have hget:a.tmps[d]? =some (.bool c):=by
     rw[Array.getElem?_eq_getElem hlt]
     simp[Array.getD,hlt] at hu
     rw[hu]
    simp only[Region.wanted,hg,yielded,hd,Option.bind_some,hget]
    cases c<;>cases want<;>rfl
   ·rename_i hc
    cases h
    have hv:=hr.tmps d
    rw[hc] at hv
    exact sW hg hd hv
   ·cases h
  ·cases h
def I9:Op→Bool
 |.defer _=>false
 |_=>true
theorem BC {op:Op} (h:I9 op=true):∀c,op≠.defer c:=by
 rintro c rfl
 cases h
def iR (ds:List bH) (o:Oper) (n:Nat):Bool:=I9 o.op&&match o.dst with|some d=>decide (d < n)&&(dE ds).all (fun p=>!(p.1==d))|none=>true
theorem kO {ds:List bH} {o:Oper} {n:Nat} (h:iR ds o n=true):∀d,o.dst=some d→d < n∧∀p,p∈dE ds→p.1≠d:=by
 intro d hd
 simp only[iR,hd,Bool.and_eq_true,decide_eq_true_eq,List.all_eq_true,Bool.not_eq_true',beq_eq_false_iff_ne] at h
 exact h.2
theorem YG {ds:List bH} {o:Oper} {n:Nat} (h:iR ds o n=true):∀c,o.op≠.defer c:=BC ((Bool.and_eq_true _ _ ▸ h:_∧_).1)
section
variable {r:Option Nat} {P:Program} {n:Nat} {ops:Array Oper} {Q:AX→AF→aI→Prop} {rest:List Oper} {o:Oper} {f:AF} {M:aI}
theorem gY {id:Nat} {ops:Array Oper} (h:WL r P n ops Q ops.toList f M):W r P n (.region id ops false) Q f M:=
 ⟨fun μ F w a hg hr=>wpIn_region_list (h μ F w a hg hr _ fun _ _ _ hp=>hp)⟩
theorem lT (h:Q .normal f M):WL r P n ops Q [] f M:=
 fun μ F w a hg hr Q' hQ=>hQ _ _ _ ⟨μ,f,M,.normal,eB.refl _ _,hg,hr,trivial,h⟩
theorem a85 (hw:aV ops f o=some true) (hd:iR f.d o n=true) {x:AV} {M':aI} (ho:KX P o.op o.type f.ev M x M') (h:WL r P n ops Q rest (f.put o.dst x) M'):WL r P n ops Q (o::rest) f M:=by
 intro μ F w a hg hr Q' hQ
 unfold wpListIn
 rw[kM hr hw,if_pos rfl]
 obtain⟨μ',nx,v,w',h1,h2,h3,h4,h5⟩:=ho μ F w a.eval o hg rfl rfl (fun y _=>hr.ev y)
 have hgo:wpListIn (B1 r) 9 P ops Q' rest (a.put o.dst v) w':=h μ' F w' _ h4 ((hr.evo h3).put (kO hd) h5) Q' fun e a' w'' hp=>hQ _ _ _ (hp.trans h3)
 exact H3 h1 h2 hgo
theorem XR (hw:aV ops f o=some true) (hd:iR f.d o n=true) {x:AV} (ho:jY P o.op o.type f.ev x) (h:WL r P n ops Q rest (f.put o.dst x) M):WL r P n ops Q (o::rest) f M:=a85 hw hd ho.toR.toE h
end
def jU (P:Program) (g:FuncId):Prop:=∃fn c,P.funcs[g]? =some fn∧fn.body=some c∧fn.name≠ "runtime.NumGoroutine"
theorem mB {P:Program} {g:FuncId} (h:jU P g) (args:Array Value) (w:World):(callFunc g args).run P w=.ok (.enter g args) w:=by
 obtain⟨fn,c,h1,h2,h3⟩:=h
 simp[callFunc,h1,h2,h3]
def aS (P:Program) (g:FuncId) (args:List AV) (M:aI) (R:dG→aI→Prop):Prop:=
 jU P g∧∀(μ:Mu) (F:cO) (w:World) (vs:Array Value),eP μ F M w→dB μ F w args vs→
  Calls P g vs w fun e w'=>∃μ' M',eB w μ w' μ'∧eP μ' F M' w'∧
   match e with
   |.returned v=>∃x,bR μ' F w' x v∧R (.ret x) M'
   |.panicked ch=>∃x v,ch=[{v,recovered:=false}]∧bR μ' F w' x v∧R (.pan x) M'
   |.outgrown=>False
theorem aS.mono {P:Program} {g:FuncId} {args:List AV} {M:aI} {R R':dG→aI→Prop} (h:aS P g args M R) (hr:∀e M,R e M→R' e M):aS P g args M R':=by
 refine⟨h.1,fun μ F w vs hg hv=>(h.2 μ F w vs hg hv).mono ?_⟩
 rintro e w' ⟨μ',M',h1,h2,h3⟩
 refine⟨μ',M',h1,h2,?_⟩
 cases e with
 |returned v=>obtain⟨x,h4,h5⟩:=h3;exact⟨x,h4,hr _ _ h5⟩
 |panicked ch=>obtain⟨x,v,h4,h5,h6⟩:=h3;exact⟨x,v,h4,h5,hr _ _ h6⟩
 |outgrown=>exact h3
theorem aS.le {P:Program} {g:FuncId} {args:List AV} {M N:aI} {R:dG→aI→Prop} (hM:N.le M) (h:aS P g args N R):aS P g args M R:=
 ⟨h.1,fun μ F w vs hg hv=>h.2 μ F w vs (hg.le hM) hv⟩
def aN (P:Program) (g:FuncId) (args:List AV) (r:AV):Prop:=∀M,aS P g args M fun e M'=>e=.ret r∧M'=M
section
variable {r:Option Nat} {P:Program} {n:Nat} {ops:Array Oper} {Q:AX→AF→aI→Prop} {rest:List Oper} {o:Oper} {f:AF} {M:aI}
end
def KP:List AV→Nat→List (Nat×AV)
 |[],_=>[]
 |a::r,i=>(i,a)::KP r (i+1)
theorem tJ:∀(l:List AV) (k i:Nat),aK (KP l k) i=if k≤i∧i < k+l.length then l[i - k]? else none
 |[],k,i=>by simp[KP,aK]
 |a::r,k,i=>by
  simp only[KP,aK,List.length_cons]
  by_cases h:i=k
  ·subst h
   simp
  ·rw[if_neg h,tJ r (k+1) i]
   by_cases h2:k+1≤i∧i < k+1+r.length
   ·rw[if_pos h2,if_pos (by omega)]
    obtain⟨m,rfl⟩:∃m,i=k+1+m:=⟨i - (k+1),by omega⟩
    rw[show k+1+m - (k+1)=m from by omega,show k+1+m - k=m+1 from by omega]
    rfl
   ·rw[if_neg h2,if_neg (by omega)]
def qS (args:List AV):AF:=⟨KP args 0,[]⟩
def qQ (τ:Tab) (M:aI) (f:AF):ResultVar→Option AV
 |.tmp t=>some (f.get t)
 |.cell a t=>eS M τ t (f.get a)
def wY (τ:Tab) (M:aI) (f:AF):List ResultVar→Option (List AV)
 |[]=>some []
 |r::l=>match qQ τ M f r,wY τ M f l with|some x,some xs=>some (x::xs)|_,_=>none
def kP (τ:Tab) (M:aI) (f:AF) (rs:Array ResultVar):Option AV:=
 match wY τ M f rs.toList with
 |some [x]=>some x
 |some xs=>some (.tup xs)
 |none=>none
def yC (tmps:Array Value):ResultVar→Sem Value
 |.tmp t=>pure (tmps.getD t undef)
 |.cell a t=>do loadVar t (←asAddr (tmps.getD a undef))
theorem RV {P:Program} {τ:Tab} (hτ:TabOK P τ) {μ:Mu} {F:cO} {M:aI} {w:World} {n:Nat} {f:AF} {a:Act} (hg:eP μ F M w) (hr:iM μ F w n f a) {r:ResultVar} {x:AV} (h:qQ τ M f r=some x):
  ∃v,(yC a.tmps r).run P w=.ok v w∧bR μ F w x v:=by
 cases r with
 |tmp t=>
  simp only[qQ,Option.some.injEq] at h
  subst h
  exact⟨_,rfl,hr.tmps t⟩
 |cell c t=>
  simp only[qQ] at h
  obtain⟨b,off,v,hv,hl,hrep⟩:=y5 (P:=P) hτ h hg (hr.tmps c)
  refine⟨v,?_,hrep⟩
  simp only[yC,hv,asAddr,Sem.run_bind,Sem.run_pure,Result.andThen_ok,hl]
theorem K6 {P:Program} {τ:Tab} (hτ:TabOK P τ) {μ:Mu} {F:cO} {M:aI} {w:World} {n:Nat} {f:AF} {a:Act} (hg:eP μ F M w) (hr:iM μ F w n f a):∀{rs:List ResultVar} {xs:List AV},wY τ M f rs=some xs→
  ∃vs:List Value,(rs.mapM (yC a.tmps)).run P w=.ok vs w∧vs.length=xs.length∧∀(i:Nat) (x:AV) (v:Value),xs[i]? =some x→vs[i]? =some v→bR μ F w x v
 |[],xs,h=>by
  simp only[wY,Option.some.injEq] at h
  subst h
  exact⟨[],by simp,rfl,by simp⟩
 |r::l,xs,h=>by
  simp only[wY] at h
  split at h
  case h_2=>cases h
  rename_i x ys h1 h2
  cases h
  obtain⟨v,hv,hx⟩:=RV (P:=P) hτ hg hr h1
  obtain⟨vs,hvs,hl,hxs⟩:=K6 hτ hg hr h2
  refine⟨v::vs,by simp[List.mapM_cons,hv,hvs],by simp[hl],?_⟩
  intro i y u hy hu
  cases i with
  |zero=>simp at hy hu;subst hy;subst hu;exact hx
  |succ i=>exact hxs i y u (by simpa using hy) (by simpa using hu)
theorem jO {P:Program} {τ:Tab} (hτ:TabOK P τ) {μ:Mu} {F:cO} {M:aI} {w:World} {n:Nat} {f:AF} {a:Act} (hg:eP μ F M w) (hr:iM μ F w n f a) {fn:Func} {x:AV} (h:kP τ M f fn.results=some x):
  ∃v,(results fn a.tmps).run P w=.ok v w∧bR μ F w x v:=by
 unfold kP at h
 have hres:results fn a.tmps=(do let vs ←fn.results.mapM (yC a.tmps);pure (if h:vs.size=1 then vs[0] else .tuple vs)):=by
  unfold results
  congr 1
 cases hx:wY τ M f fn.results.toList with
 |none=>rw[hx] at h;simp at h
 |some xs=>
  rw[hx] at h
  obtain⟨vs,hvs,hl,hxs⟩:=K6 (P:=P) hτ hg hr hx
  have hrun:(fn.results.mapM (yC a.tmps)).run P w=.ok vs.toArray w:=by
   rw[Array.mapM_eq_mapM_toList]
   simp[hvs]
  rw[hres]
  simp only[Sem.run_bind,hrun,Result.andThen_ok,Sem.run_pure]
  match xs,vs,hl,hxs,h with
  |[y],[v],_,hxs,h=>
   simp only[Option.some.injEq] at h
   subst h
   exact⟨v,rfl,hxs 0 y v rfl rfl⟩
  |[],[],_,hxs,h=>
   simp only[Option.some.injEq] at h
   subst h
   exact⟨.tuple #[],rfl,.tup _ _ rfl (by simp)⟩
  |y::z::l,v::u::r,hl,hxs,h=>
   simp only[Option.some.injEq] at h
   subst h
   refine⟨.tuple (v::u::r).toArray,?_,.tup _ _ (by simpa using hl) (fun i x q hx hq=>hxs i x q hx (by simpa using hq))⟩
   rw[dif_neg (by simp)]
def a5x (τ:Tab) (fn:Func) (R:dG→aI→Prop):AX→AF→aI→Prop
 |.normal,f,M|.ret,f,M=>f.d=[]∧∃r,kP τ M f fn.results=some r∧R (.ret r) M
 |.panic v,f,M=>f.d=[]∧R (.pan v) M
 |.exit _,_,_=>False
theorem fV {μ:Mu} {F:cO} {w:World} {l:List Deferred} (h:fY μ F w [] l):l=[]:=by
 cases l with
 |nil=>rfl
 |cons d r=>exact h.elim
theorem mI {μ:Mu} {F:cO} {w:World} {n:Nat} {args:List AV} {vs:Array Value} (hlen:args.length≤n) (hv:dB μ F w args vs):iM μ F w n (qS args) {tmps:=vs++Array.replicate (n - vs.size) undef,defers:=[]}:=by
 refine⟨by simp[hv.1];omega,?_,trivial,fun p hp=>by cases hp⟩
 intro t
 simp only[AF.get,qS,tJ,Nat.zero_le,true_and,Nat.zero_add,Nat.sub_zero]
 by_cases ht:t < args.length
 ·rw[if_pos ht]
  have hvt:t < vs.size:=by rw[hv.1];exact ht
  have h1:=hv.2 t _ _ (List.getElem?_eq_getElem ht) (Array.getElem?_eq_getElem hvt)
  rw[List.getElem?_eq_getElem ht]
  simp only[Option.getD_some]
  rw[Array.getD_eq_getD_getElem?,Array.getElem?_append_left hvt,Array.getElem?_eq_getElem hvt]
  exact h1
 ·rw[if_neg ht]
  exact .top _
theorem aC {P:Program} {τ:Tab} (hτ:TabOK P τ) {g:FuncId} {fn:Func} {c:Code} (hf:P.funcs[g]? =some fn) (hb:fn.body=some c) (hn:fn.name≠ "runtime.NumGoroutine") {args:List AV} {M:aI} {R:dG→aI→Prop}
  (hlen:args.length≤fn.ntmps) (h:W none P fn.ntmps c (a5x τ fn R) (qS args) M):aS P g args M R:=by
 refine⟨⟨fn,c,hf,hb,hn⟩,fun μ F w vs hg hv=>?_⟩
 refine calls_of_wp hf hb ?_
 have hr:=mI (μ:=μ) (F:=F) (w:=w) hlen hv
 refine wp_mono (A4 (h.run μ F w _ hg hr)) ?_
 rintro e a' w' ⟨μ',f',M',x,h1,h2,h3,h4,h5⟩
 cases e with
 |normal=>
  cases x<;>first|exact h4.elim|skip
  obtain⟨hd,r,hr',hR⟩:=h5
  obtain⟨v,hv',hrep⟩:=jO (P:=P) hτ h2 h3 hr'
  have hdd:=h3.defs
  rw[hd] at hdd
  exact⟨fV hdd,v,hv',μ',M',h1,h2,r,hrep,hR⟩
 |exit id=>cases x<;>first|exact h4.elim|exact h5.elim
 |goto l=>cases x<;>exact h4.elim
 |ret=>
  cases x<;>first|exact h4.elim|skip
  obtain⟨hd,r,hr',hR⟩:=h5
  obtain⟨v,hv',hrep⟩:=jO (P:=P) hτ h2 h3 hr'
  have hdd:=h3.defs
  rw[hd] at hdd
  exact⟨fV hdd,v,hv',μ',M',h1,h2,r,hrep,hR⟩
 |panic ch=>
  cases x<;>first|exact h4.elim|skip
  obtain⟨hd,hR⟩:=h5
  obtain⟨v,rfl,hrep⟩:=h4
  have hdd:=h3.defs
  rw[hd] at hdd
  exact⟨fV hdd,μ',M',h1,h2,_,v,rfl,hrep,hR⟩
 |outgrown=>cases x<;>exact h4.elim
def aP (x:AV):Prop:=∀(μ μ':Mu) (F F':cO) (w:World) (v:Value),(∀b o,jA μ F b o→jA μ' F' b o)→bR μ F w x v→bR μ' F' w x v
theorem aB {k:IntKind} {n:Int}:aP (.int k n):=by intro μ μ' F F' w v hf h;cases h;exact .int _ _
theorem aL {b:Bool}:aP (.bool b):=by intro μ μ' F F' w v hf h;cases h;exact .bool _
theorem aR {s:List UInt8}:aP (.str s):=by intro μ μ' F F' w v hf h;cases h;exact .str _
theorem dX:aP .nilptr:=by intro μ μ' F F' w v hf h;cases h;exact .nilptr
theorem k9:aP .nilIface:=by intro μ μ' F F' w v hf h;cases h;exact .nilIface
theorem AU:aP .nilFunc:=by intro μ μ' F F' w v hf h;cases h;exact .nilFunc
theorem BE:aP .nilmap:=by intro μ μ' F F' w v hf h;cases h;exact .nilmap
theorem L1:aP .top:=by intro μ μ' F F' w v hf h;exact .top _
theorem nE {t:TypeId} {x:AV} (hx:aP x):aP (.iface t x):=by
 intro μ μ' F F' w v hf h
 cases h with
 |iface _ _ u hu=>exact .iface _ _ _ (hx μ μ' F F' w u hf hu)
theorem cP {l:List AV} (hl:∀x,x∈l→aP x):aP (.agg l):=by
 intro μ μ' F F' w v hf h
 obtain⟨c,rfl,h1,h2,h3⟩:=h.agg_inv
 exact .agg _ _ h1 (fun i x u hx hu=>hl x (List.mem_of_getElem? hx) μ μ' F F' w u hf (h2 i x u hx hu)) h3
theorem aW {l:List AV} (hl:∀x,x∈l→aP x):aP (.tup l):=by
 intro μ μ' F F' w v hf h
 obtain⟨c,rfl,h1,h2⟩:=h.tup_inv
 exact .tup _ _ h1 (fun i x u hx hu=>hl x (List.mem_of_getElem? hx) μ μ' F F' w u hf (h2 i x u hx hu))
theorem QX {g:Fn} {l1 l2:List AV} (h1:∀x,x∈l1→aP x) (h2:∀x,x∈l2→aP x):aP (.fn g l1 l2):=by
 intro μ μ' F F' w v hf h
 obtain⟨c1,c2,rfl,g1,g2,g3,g4⟩:=h.fn_inv
 exact .fn _ _ _ _ _ g1 g2 (fun i x u hx hu=>h1 x (List.mem_of_getElem? hx) μ μ' F F' w u hf (g3 i x u hx hu)) (fun i x u hx hu=>h2 x (List.mem_of_getElem? hx) μ μ' F F' w u hf (g4 i x u hx hu))
theorem j7 {l:List AV} (hl:∀x,x∈l→aP x):aP (.ref l):=by
 intro μ μ' F F' w v hf h
 obtain⟨b,o,vals,rfl,h1,h2,h3⟩:=h.ref_inv
 exact .ref _ _ _ vals h1 (fun j c hc=>⟨(h2 j c hc).1,hf _ _ (h2 j c hc).2⟩) (fun j c hc=>hl c (List.mem_of_getElem? hc) μ μ' F F' w _ hf (h3 j c hc))
theorem c8 {sz:Nat} {xs:List AV} {t:eI} (ht:t=.none∨t=.full) (hl:∀x,x∈xs→aP x) (hc:∀x,x∈xs→(∀c,c∈x.cells→aP c)):aP (.sl sz xs t):=by
 intro μ μ' F F' w v hf h
 obtain⟨A,cap,ad,vals,rfl,h1,h2,h3,h4,h5,h6,h7⟩:=h.sl_inv
 refine .sl _ _ _ _ _ ad vals h1 h2 h3 h4 (fun i x j c hx hj=>⟨(h5 i x j c hx hj).1,hf _ _ (h5 i x j c hx hj).2⟩)
  (fun i x j c hx hj=>hc x (List.mem_of_getElem? hx) c (List.mem_of_getElem? hj) μ μ' F F' w _ hf (h6 i x j c hx hj)) ?_
 rcases ht with rfl|rfl
 ·trivial
 ·exact h7
theorem vU {μ:Mu} {F:cO} {w:World} {sz:Nat} {xs:List AV} {t:eI} {v:Value} (h:bR μ F w (.sl sz xs t) v):bR μ F w (.sl sz xs .none) v:=by
 obtain⟨A,cap,ad,vals,rfl,h1,h2,h3,h4,h5,h6,h7⟩:=h.sl_inv
 exact .sl _ _ _ _ _ ad vals h1 h2 h3 h4 h5 h6 trivial
theorem tP {P:Program} {g:FuncId} {args:List AV} {R:dG→Prop} (ha:∀x,x∈args→aP x) (h:aS P g args ⟨0,[]⟩ fun e _=>R e) (hR:∀e,R e→match e with|.ret x=>aP x|.pan x=>aP x) (M:aI):
  aS P g args M fun e M'=>R e∧M'=M:=by
 refine⟨h.1,fun μ F w vs hg hv=>?_⟩
 let μ0:Mu:=fun _=>none
 let F0:cO:=fun b o=>F b o∨jX μ b o
 have hno:∀b o,¬jX μ0 b o:=by rintro b o ⟨id,h|⟨e,g,h,_⟩⟩<;>cases h
 have hfree:∀b o,jA μ F b o→jA μ0 F0 b o:=fun b o hf=>⟨fun h=>h.elim hf.1 hf.2,hno b o⟩
 have hg0:eP μ0 F0 ⟨0,[]⟩ w:=by
  refine {dom:=fun id=>(by simp[μ0]),obj:=fun id l hM=>(by cases hM),spare:=fun id g hM=>(by cases hM),raw:=fun id g o vs t hM=>(by cases hM),inj:=?_,frm:=fun b o ho=>absurd ho (hno b o),fit:=⟨fun b o ho=>absurd ho (hno b o),?_⟩}
  ·rintro i j b (h|⟨_,_,h⟩) _<;>cases h
  ·rintro b o (h|h)
   ·exact hg.fit.frm b o h
   ·exact hg.fit.own b o h
 refine (h.2 μ0 F0 w vs hg0 ⟨hv.1,fun i x v hx hv'=>ha x (List.mem_of_getElem? hx) μ μ0 F F0 w v hfree (hv.2 i x v hx hv')⟩).mono ?_
 rintro e w' ⟨μ',M',h1,h2,h3⟩
 have hb:Below w.heap.size w w':=⟨h1.os,h1.tape,h1.output,h1.size,fun k hk=>h1.same k hk (hno k)⟩
 have hfree':∀b o,jA μ' F0 b o→jA μ F b o:=fun b o hf=>⟨fun h=>hf.1 (.inl h),fun h=>hf.1 (.inr h)⟩
 refine⟨μ,M,eB.of_below μ hb,hg.below hb,?_⟩
 cases e with
 |returned v=>
  obtain⟨x,h4,h5⟩:=h3
  exact⟨x,hR _ h5 μ' μ F0 F w' v hfree' h4,h5,rfl⟩
 |panicked ch=>
  obtain⟨x,v,h4,h5,h6⟩:=h3
  exact⟨x,v,h4,hR _ h6 μ' μ F0 F w' v hfree' h5,h6,rfl⟩
 |outgrown=>exact h3
theorem WE {P:Program} {g:FuncId} {args:List AV} {r:AV} (ha:∀x,x∈args→aP x) (hr:aP r) (h:aS P g args ⟨0,[]⟩ fun e _=>e=.ret r):aN P g args r:=
 fun M=>tP (R:=fun e=>e=.ret r) ha h (fun e he=>by subst he;exact hr) M
end Go.Ab
namespace Go.Proofs.YthnhbmlefiafaaaGreatDoor
def lY:Go.Ab.Tab:=[
 (1,⟨1,8,.other,[.nilFunc]⟩),
 (2,⟨1,8,.int .i64,[.int .i64 0]⟩),
 (3,⟨1,8,.int .i64,[.int .i64 0]⟩),
 (4,⟨1,1,.bool,[.bool false]⟩),
 (5,⟨1,1,.int .u8,[.int .u8 0]⟩),
 (6,⟨1,1,.int .u8,[.int .u8 0]⟩),
 (7,⟨4,24,.struct [(0,2),(1,3),(2,4),(3,6)],[.int .i64 0,.int .i64 0,.bool false,.int .u8 0]⟩),
 (8,⟨4,24,.struct [(0,2),(1,3),(2,4),(3,6)],[.int .i64 0,.int .i64 0,.bool false,.int .u8 0]⟩),
 (9,⟨1,16,.str,[.str []]⟩),
 (10,⟨1,16,.str,[.str []]⟩),
 (11,⟨1,16,.str,[.str []]⟩),
 (12,⟨1,8,.int .u64,[.int .u64 0]⟩),
 (13,⟨2,24,.struct [(0,9),(1,12)],[.str [],.int .u64 0]⟩),
 (14,⟨2,24,.struct [(0,9),(1,12)],[.str [],.int .u64 0]⟩),
 (15,⟨1,8,.ptr 303,[.nilptr]⟩),
 (16,⟨1,8,.ptr 306,[.nilptr]⟩),
 (17,⟨1,8,.ptr 313,[.nilptr]⟩),
 (18,⟨1,8,.struct [(0,17)],[.nilptr]⟩),
 (19,⟨1,8,.struct [(0,17)],[.nilptr]⟩),
 (20,⟨1,16,.iface,[.nilIface]⟩),
 (21,⟨1,4,.int .i32,[.int .i32 0]⟩),
 (22,⟨1,24,.slice 105,[.sl 0 [] .full]⟩),
 (23,⟨6,64,.struct [(0,3),(1,3),(2,3),(3,3),(4,3),(5,22)],[.int .i64 0,.int .i64 0,.int .i64 0,.int .i64 0,.int .i64 0,.sl 0 [] .full]⟩),
 (24,⟨6,64,.struct [(0,3),(1,3),(2,3),(3,3),(4,3),(5,22)],[.int .i64 0,.int .i64 0,.int .i64 0,.int .i64 0,.int .i64 0,.sl 0 [] .full]⟩),
 (25,⟨1,8,.other,[.nilFunc]⟩),
 (26,⟨1,24,.slice 24,[.sl 0 [] .full]⟩),
 (27,⟨1,8,.int .i64,[.int .i64 0]⟩),
 (29,⟨1,8,.other,[.nilFunc]⟩),
 (31,⟨1,8,.other,[.nilFunc]⟩),
 (32,⟨1,8,.other,[.nilFunc]⟩),
 (33,⟨1,8,.other,[.nilFunc]⟩),
 (34,⟨1,8,.other,[.nilFunc]⟩),
 (35,⟨1,8,.other,[.nilFunc]⟩),
 (36,⟨1,24,.slice 130,[.sl 0 [] .full]⟩),
 (37,⟨1,24,.slice 132,[.sl 0 [] .full]⟩),
 (38,⟨1,24,.slice 91,[.sl 0 [] .full]⟩),
 (39,⟨5,88,.struct [(0,3),(1,3),(2,36),(3,37),(4,38)],[.int .i64 0,.int .i64 0,.sl 0 [] .full,.sl 0 [] .full,.sl 0 [] .full]⟩),
 (40,⟨5,88,.struct [(0,3),(1,3),(2,36),(3,37),(4,38)],[.int .i64 0,.int .i64 0,.sl 0 [] .full,.sl 0 [] .full,.sl 0 [] .full]⟩),
 (41,⟨1,8,.other,[.nilFunc]⟩),
 (42,⟨1,8,.other,[.nilFunc]⟩),
 (43,⟨2,16,.struct [(0,27),(1,3)],[.int .i64 0,.int .i64 0]⟩),
 (44,⟨2,16,.struct [(0,27),(1,3)],[.int .i64 0,.int .i64 0]⟩),
 (46,⟨1,8,.other,[.nilFunc]⟩),
 (47,⟨1,8,.other,[.nilFunc]⟩),
 (48,⟨1,8,.other,[.nilFunc]⟩),
 (49,⟨1,24,.slice 44,[.sl 0 [] .full]⟩),
 (51,⟨1,8,.other,[.nilFunc]⟩),
 (52,⟨1,8,.other,[.nilFunc]⟩),
 (53,⟨1,8,.other,[.nilFunc]⟩),
 (54,⟨1,8,.ptr 57,[.nilptr]⟩),
 (55,⟨1,24,.slice 5,[.sl 0 [] .full]⟩),
 (56,⟨2,32,.struct [(0,54),(1,55)],[.nilptr,.sl 0 [] .full]⟩),
 (57,⟨2,32,.struct [(0,54),(1,55)],[.nilptr,.sl 0 [] .full]⟩),
 (58,⟨5,40,.array 5 3,[.int .i64 0,.int .i64 0,.int .i64 0,.int .i64 0,.int .i64 0]⟩),
 (59,⟨1,8,.other,[.nilFunc]⟩),
 (60,⟨1,16,.iface,[.nilIface]⟩),
 (61,⟨1,16,.iface,[.nilIface]⟩),
 (63,⟨1,8,.other,[.nilFunc]⟩),
 (64,⟨1,8,.other,[.nilFunc]⟩),
 (65,⟨1,8,.other,[.nilFunc]⟩),
 (66,⟨1,24,.slice 3,[.sl 0 [] .full]⟩),
 (68,⟨1,8,.other,[.nilFunc]⟩),
 (70,⟨1,8,.other,[.nilFunc]⟩),
 (72,⟨1,8,.other,[.nilFunc]⟩),
 (73,⟨1,8,.other,[.nilFunc]⟩),
 (74,⟨1,8,.other,[.nilFunc]⟩),
 (75,⟨1,8,.other,[.nilFunc]⟩),
 (76,⟨1,8,.other,[.nilFunc]⟩),
 (77,⟨1,8,.other,[.nilFunc]⟩),
 (78,⟨1,8,.other,[.nilFunc]⟩),
 (79,⟨1,8,.other,[.nilFunc]⟩),
 (81,⟨1,8,.other,[.nilFunc]⟩),
 (82,⟨1,8,.ptr 86,[.nilptr]⟩),
 (83,⟨1,8,.ptr 179,[.nilptr]⟩),
 (84,⟨1,8,.other,[.nilFunc]⟩),
 (85,⟨6,96,.struct [(0,40),(5,83)],[.int .i64 0,.int .i64 0,.sl 0 [] .full,.sl 0 [] .full,.sl 0 [] .full,.nilptr]⟩),
 (86,⟨6,96,.struct [(0,40),(5,83)],[.int .i64 0,.int .i64 0,.sl 0 [] .full,.sl 0 [] .full,.sl 0 [] .full,.nilptr]⟩),
 (87,⟨1,8,.other,[.nilFunc]⟩),
 (89,⟨1,8,.other,[.nilFunc]⟩),
 (90,⟨4,32,.struct [(0,3),(1,3),(2,44)],[.int .i64 0,.int .i64 0,.int .i64 0,.int .i64 0]⟩),
 (91,⟨4,32,.struct [(0,3),(1,3),(2,44)],[.int .i64 0,.int .i64 0,.int .i64 0,.int .i64 0]⟩),
 (92,⟨1,8,.other,[.nilFunc]⟩),
 (94,⟨1,8,.other,[.nilFunc]⟩),
 (95,⟨1,8,.other,[.nilFunc]⟩),
 (96,⟨1,8,.other,[.nilFunc]⟩),
 (97,⟨1,8,.other,[.nilFunc]⟩),
 (98,⟨1,8,.other,[.nilFunc]⟩),
 (99,⟨1,8,.other,[.nilFunc]⟩),
 (100,⟨1,8,.other,[.nilFunc]⟩),
 (101,⟨1,8,.other,[.nilFunc]⟩),
 (102,⟨3,40,.struct [(0,3),(1,3),(2,66)],[.int .i64 0,.int .i64 0,.sl 0 [] .full]⟩),
 (103,⟨3,40,.struct [(0,3),(1,3),(2,66)],[.int .i64 0,.int .i64 0,.sl 0 [] .full]⟩),
 (104,⟨5,64,.struct [(0,9),(1,4),(2,103)],[.str [],.bool false,.int .i64 0,.int .i64 0,.sl 0 [] .full]⟩),
 (105,⟨5,64,.struct [(0,9),(1,4),(2,103)],[.str [],.bool false,.int .i64 0,.int .i64 0,.sl 0 [] .full]⟩),
 (106,⟨1,8,.other,[.nilFunc]⟩),
 (107,⟨1,8,.other,[.nilFunc]⟩),
 (108,⟨1,8,.other,[.nilFunc]⟩),
 (109,⟨1,24,.slice 9,[.sl 0 [] .full]⟩),
 (110,⟨1,8,.other,[.nilFunc]⟩),
 (111,⟨1,8,.other,[.nilFunc]⟩),
 (112,⟨1,8,.ptr 5,[.nilptr]⟩),
 (113,⟨1,8,.int .u64,[.int .u64 0]⟩),
 (115,⟨1,8,.other,[.nilFunc]⟩),
 (116,⟨1,8,.other,[.nilFunc]⟩),
 (117,⟨1,8,.other,[.nilFunc]⟩),
 (118,⟨1,8,.other,[.nilFunc]⟩),
 (120,⟨1,8,.other,[.nilFunc]⟩),
 (121,⟨1,8,.other,[.nilFunc]⟩),
 (122,⟨1,8,.other,[.nilFunc]⟩),
 (123,⟨1,8,.other,[.nilFunc]⟩),
 (124,⟨5,64,.struct [(0,9),(1,4),(2,103)],[.str [],.bool false,.int .i64 0,.int .i64 0,.sl 0 [] .full]⟩),
 (125,⟨1,8,.other,[.nilFunc]⟩),
 (126,⟨1,8,.other,[.nilFunc]⟩),
 (127,⟨2,24,.struct [(0,9),(1,3)],[.str [],.int .i64 0]⟩),
 (128,⟨2,24,.struct [(0,9),(1,3)],[.str [],.int .i64 0]⟩),
 (129,⟨3,40,.struct [(0,128),(2,9)],[.str [],.int .i64 0,.str []]⟩),
 (130,⟨3,40,.struct [(0,128),(2,9)],[.str [],.int .i64 0,.str []]⟩),
 (131,⟨2,16,.struct [(0,3),(1,3)],[.int .i64 0,.int .i64 0]⟩),
 (132,⟨2,16,.struct [(0,3),(1,3)],[.int .i64 0,.int .i64 0]⟩),
 (134,⟨1,8,.other,[.nilFunc]⟩),
 (135,⟨1,8,.other,[.nilFunc]⟩),
 (136,⟨1,8,.other,[.nilFunc]⟩),
 (137,⟨1,8,.other,[.nilFunc]⟩),
 (138,⟨5,40,.array 5 137,[.nilFunc,.nilFunc,.nilFunc,.nilFunc,.nilFunc]⟩),
 (139,⟨4,32,.struct [(0,3),(1,3),(2,44)],[.int .i64 0,.int .i64 0,.int .i64 0,.int .i64 0]⟩),
 (140,⟨1,8,.other,[.nilFunc]⟩),
 (141,⟨1,8,.other,[.nilFunc]⟩),
 (142,⟨1,8,.other,[.nilFunc]⟩),
 (143,⟨1,8,.other,[.nilFunc]⟩),
 (144,⟨1,8,.other,[.nilFunc]⟩),
 (145,⟨1,8,.other,[.nilFunc]⟩),
 (146,⟨1,8,.other,[.nilFunc]⟩),
 (147,⟨1,8,.other,[.nilFunc]⟩),
 (148,⟨1,8,.other,[.nilFunc]⟩),
 (149,⟨1,8,.other,[.nilFunc]⟩),
 (150,⟨1,8,.ptr 27,[.nilptr]⟩),
 (151,⟨1,24,.slice 154,[.sl 0 [] .full]⟩),
 (152,⟨1,8,.other,[.nilFunc]⟩),
 (153,⟨6,72,.struct [(0,128),(2,103),(5,4)],[.str [],.int .i64 0,.int .i64 0,.int .i64 0,.sl 0 [] .full,.bool false]⟩),
 (154,⟨6,72,.struct [(0,128),(2,103),(5,4)],[.str [],.int .i64 0,.int .i64 0,.int .i64 0,.sl 0 [] .full,.bool false]⟩),
 (155,⟨1,8,.other,[.nilFunc]⟩),
 (156,⟨1,8,.other,[.nilFunc]⟩),
 (158,⟨1,8,.other,[.nilFunc]⟩),
 (159,⟨1,8,.other,[.nilFunc]⟩),
 (160,⟨1,8,.other,[.nilFunc]⟩),
 (161,⟨1,8,.other,[.nilFunc]⟩),
 (162,⟨1,8,.other,[.nilFunc]⟩),
 (164,⟨1,8,.other,[.nilFunc]⟩),
 (166,⟨1,8,.other,[.nilFunc]⟩),
 (168,⟨1,8,.other,[.nilFunc]⟩),
 (169,⟨1,8,.other,[.nilFunc]⟩),
 (170,⟨1,8,.other,[.nilFunc]⟩),
 (171,⟨1,8,.other,[.nilFunc]⟩),
 (172,⟨1,8,.other,[.nilFunc]⟩),
 (173,⟨1,8,.other,[.nilFunc]⟩),
 (174,⟨1,8,.other,[.nilFunc]⟩),
 (175,⟨1,24,.slice 130,[.sl 0 [] .full]⟩),
 (176,⟨1,16,.iface,[.nilIface]⟩),
 (177,⟨1,16,.iface,[.nilIface]⟩),
 (178,⟨1,16,.struct [(0,177)],[.nilIface]⟩),
 (179,⟨1,16,.struct [(0,177)],[.nilIface]⟩),
 (180,⟨1,24,.slice 177,[.sl 0 [] .full]⟩),
 (181,⟨1,8,.other,[.nilFunc]⟩),
 (182,⟨1,8,.other,[.nilFunc]⟩),
 (183,⟨1,8,.other,[.nilFunc]⟩),
 (185,⟨1,8,.other,[.nilFunc]⟩),
 (186,⟨1,8,.other,[.nilFunc]⟩),
 (188,⟨1,8,.other,[.nilFunc]⟩),
 (190,⟨1,8,.other,[.nilFunc]⟩),
 (191,⟨1,8,.other,[.nilFunc]⟩),
 (192,⟨1,8,.other,[.nilFunc]⟩),
 (194,⟨1,8,.other,[.nilFunc]⟩),
 (195,⟨1,8,.other,[.nilFunc]⟩),
 (196,⟨1,8,.other,[.nilFunc]⟩),
 (197,⟨1,8,.other,[.nilFunc]⟩),
 (198,⟨1,8,.other,[.nilFunc]⟩),
 (199,⟨1,8,.other,[.nilFunc]⟩),
 (200,⟨1,8,.other,[.nilFunc]⟩),
 (202,⟨1,8,.other,[.nilFunc]⟩),
 (204,⟨1,8,.other,[.nilFunc]⟩),
 (205,⟨1,8,.other,[.nilFunc]⟩),
 (206,⟨1,8,.ptr 245,[.nilptr]⟩),
 (208,⟨1,8,.other,[.nilFunc]⟩),
 (209,⟨1,8,.other,[.nilFunc]⟩),
 (210,⟨1,8,.other,[.nilFunc]⟩),
 (212,⟨1,8,.ptr 214,[.nilptr]⟩),
 (213,⟨1,16,.struct [(0,9)],[.str []]⟩),
 (214,⟨1,16,.struct [(0,9)],[.str []]⟩),
 (216,⟨1,8,.other,[.nilFunc]⟩),
 (217,⟨1,8,.other,[.nilFunc]⟩),
 (219,⟨1,8,.other,[.nilFunc]⟩),
 (220,⟨1,24,.slice 180,[.sl 0 [] .full]⟩),
 (221,⟨1,8,.other,[.nilFunc]⟩),
 (222,⟨2,32,.struct [(0,180),(1,3)],[.sl 0 [] .full,.int .i64 0]⟩),
 (223,⟨2,32,.struct [(0,180),(1,3)],[.sl 0 [] .full,.int .i64 0]⟩),
 (224,⟨1,8,.other,[.nilFunc]⟩),
 (225,⟨1,8,.other,[.nilFunc]⟩),
 (226,⟨1,8,.other,[.nilFunc]⟩),
 (227,⟨1,8,.other,[.nilFunc]⟩),
 (228,⟨1,8,.other,[.nilFunc]⟩),
 (229,⟨1,8,.other,[.nilFunc]⟩),
 (230,⟨1,8,.other,[.nilFunc]⟩),
 (231,⟨1,24,.slice 128,[.sl 0 [] .full]⟩),
 (233,⟨1,8,.other,[.nilFunc]⟩),
 (234,⟨1,8,.other,[.nilFunc]⟩),
 (235,⟨1,8,.other,[.nilFunc]⟩),
 (236,⟨1,8,.other,[.nilFunc]⟩),
 (237,⟨1,8,.other,[.nilFunc]⟩),
 (238,⟨1,8,.other,[.nilFunc]⟩),
 (239,⟨1,8,.other,[.nilFunc]⟩),
 (240,⟨1,8,.other,[.nilFunc]⟩),
 (241,⟨2,24,.struct [(0,9),(1,3)],[.str [],.int .i64 0]⟩),
 (242,⟨1,8,.other,[.nilFunc]⟩),
 (243,⟨1,8,.other,[.nilFunc]⟩),
 (244,⟨3,40,.struct [(0,83),(1,242),(2,36)],[.nilptr,.nilFunc,.sl 0 [] .full]⟩),
 (245,⟨3,40,.struct [(0,83),(1,242),(2,36)],[.nilptr,.nilFunc,.sl 0 [] .full]⟩),
 (246,⟨1,8,.other,[.nilFunc]⟩),
 (247,⟨1,8,.other,[.nilFunc]⟩),
 (248,⟨1,8,.other,[.nilFunc]⟩),
 (249,⟨1,8,.int .i64,[.int .i64 0]⟩),
 (250,⟨1,8,.other,[.nilFunc]⟩),
 (251,⟨1,8,.other,[.nilFunc]⟩),
 (252,⟨1,8,.other,[.nilFunc]⟩),
 (253,⟨1,8,.other,[.nilFunc]⟩),
 (254,⟨1,8,.other,[.nilFunc]⟩),
 (255,⟨1,8,.other,[.nilFunc]⟩),
 (256,⟨1,8,.other,[.nilFunc]⟩),
 (258,⟨1,8,.other,[.nilFunc]⟩),
 (259,⟨1,8,.other,[.nilFunc]⟩),
 (260,⟨1,8,.other,[.nilFunc]⟩),
 (261,⟨1,8,.other,[.nilFunc]⟩),
 (262,⟨1,8,.other,[.nilFunc]⟩),
 (263,⟨1,8,.int .i64,[.int .i64 0]⟩),
 (265,⟨1,8,.other,[.nilFunc]⟩),
 (266,⟨1,8,.other,[.nilFunc]⟩),
 (267,⟨1,8,.other,[.nilFunc]⟩),
 (268,⟨1,8,.other,[.nilFunc]⟩),
 (269,⟨1,8,.other,[.nilFunc]⟩),
 (270,⟨1,4,.int .u32,[.int .u32 0]⟩),
 (271,⟨1,8,.other,[.nilFunc]⟩),
 (272,⟨1,8,.int .u64,[.int .u64 0]⟩),
 (273,⟨1,8,.other,[.nilFunc]⟩),
 (274,⟨1,8,.other,[.nilFunc]⟩),
 (275,⟨1,8,.int .u64,[.int .u64 0]⟩),
 (276,⟨1,8,.other,[.nilFunc]⟩),
 (277,⟨1,8,.other,[.nilFunc]⟩),
 (278,⟨1,8,.other,[.nilFunc]⟩),
 (279,⟨1,8,.ptr 3,[.nilptr]⟩),
 (280,⟨1,8,.other,[.nilFunc]⟩),
 (281,⟨1,8,.other,[.nilFunc]⟩),
 (283,⟨1,8,.other,[.nilFunc]⟩),
 (284,⟨1,8,.other,[.nilFunc]⟩),
 (285,⟨1,8,.other,[.nilFunc]⟩),
 (286,⟨256,256,.array 256 4,[.bool false,.bool false,.bool false,.bool false,.bool false,.bool false,.bool false,.bool false,.bool false,.bool false,.bool false,.bool false,.bool false,.bool false,.bool false,.bool false,.bool false,.bool false,.bool false,.bool false,.bool false,.bool false,.bool false,.bool false,.bool false,.bool false,.bool false,.bool false,.bool false,.bool false,.bool false,.bool false,.bool false,.bool false,.bool false,.bool false,.bool false,.bool false,.bool false,.bool false,.bool false,.bool false,.bool false,.bool false,.bool false,.bool false,.bool false,.bool false,.bool false,.bool false,.bool false,.bool false,.bool false,.bool false,.bool false,.bool false,.bool false,.bool false,.bool false,.bool false,.bool false,.bool false,.bool false,.bool false,.bool false,.bool false,.bool false,.bool false,.bool false,.bool false,.bool false,.bool false,.bool false,.bool false,.bool false,.bool false,.bool false,.bool false,.bool false,.bool false,.bool false,.bool false,.bool false,.bool false,.bool false,.bool false,.bool false,.bool false,.bool false,.bool false,.bool false,.bool false,.bool false,.bool false,.bool false,.bool false,.bool false,.bool false,.bool false,.bool false,.bool false,.bool false,.bool false,.bool false,.bool false,.bool false,.bool false,.bool false,.bool false,.bool false,.bool false,.bool false,.bool false,.bool false,.bool false,.bool false,.bool false,.bool false,.bool false,.bool false,.bool false,.bool false,.bool false,.bool false,.bool false,.bool false,.bool false,.bool false,.bool false,.bool false,.bool false,.bool false,.bool false,.bool false,.bool false,.bool false,.bool false,.bool false,.bool false,.bool false,.bool false,.bool false,.bool false,.bool false,.bool false,.bool false,.bool false,.bool false,.bool false,.bool false,.bool false,.bool false,.bool false,.bool false,.bool false,.bool false,.bool false,.bool false,.bool false,.bool false,.bool false,.bool false,.bool false,.bool false,.bool false,.bool false,.bool false,.bool false,.bool false,.bool false,.bool false,.bool false,.bool false,.bool false,.bool false,.bool false,.bool false,.bool false,.bool false,.bool false,.bool false,.bool false,.bool false,.bool false,.bool false,.bool false,.bool false,.bool false,.bool false,.bool false,.bool false,.bool false,.bool false,.bool false,.bool false,.bool false,.bool false,.bool false,.bool false,.bool false,.bool false,.bool false,.bool false,.bool false,.bool false,.bool false,.bool false,.bool false,.bool false,.bool false,.bool false,.bool false,.bool false,.bool false,.bool false,.bool false,.bool false,.bool false,.bool false,.bool false,.bool false,.bool false,.bool false,.bool false,.bool false,.bool false,.bool false,.bool false,.bool false,.bool false,.bool false,.bool false,.bool false,.bool false,.bool false,.bool false,.bool false,.bool false,.bool false,.bool false,.bool false,.bool false,.bool false,.bool false,.bool false,.bool false,.bool false,.bool false,.bool false,.bool false,.bool false,.bool false,.bool false,.bool false,.bool false,.bool false]⟩),
 (287,⟨256,256,.array 256 4,[.bool false,.bool false,.bool false,.bool false,.bool false,.bool false,.bool false,.bool false,.bool false,.bool false,.bool false,.bool false,.bool false,.bool false,.bool false,.bool false,.bool false,.bool false,.bool false,.bool false,.bool false,.bool false,.bool false,.bool false,.bool false,.bool false,.bool false,.bool false,.bool false,.bool false,.bool false,.bool false,.bool false,.bool false,.bool false,.bool false,.bool false,.bool false,.bool false,.bool false,.bool false,.bool false,.bool false,.bool false,.bool false,.bool false,.bool false,.bool false,.bool false,.bool false,.bool false,.bool false,.bool false,.bool false,.bool false,.bool false,.bool false,.bool false,.bool false,.bool false,.bool false,.bool false,.bool false,.bool false,.bool false,.bool false,.bool false,.bool false,.bool false,.bool false,.bool false,.bool false,.bool false,.bool false,.bool false,.bool false,.bool false,.bool false,.bool false,.bool false,.bool false,.bool false,.bool false,.bool false,.bool false,.bool false,.bool false,.bool false,.bool false,.bool false,.bool false,.bool false,.bool false,.bool false,.bool false,.bool false,.bool false,.bool false,.bool false,.bool false,.bool false,.bool false,.bool false,.bool false,.bool false,.bool false,.bool false,.bool false,.bool false,.bool false,.bool false,.bool false,.bool false,.bool false,.bool false,.bool false,.bool false,.bool false,.bool false,.bool false,.bool false,.bool false,.bool false,.bool false,.bool false,.bool false,.bool false,.bool false,.bool false,.bool false,.bool false,.bool false,.bool false,.bool false,.bool false,.bool false,.bool false,.bool false,.bool false,.bool false,.bool false,.bool false,.bool false,.bool false,.bool false,.bool false,.bool false,.bool false,.bool false,.bool false,.bool false,.bool false,.bool false,.bool false,.bool false,.bool false,.bool false,.bool false,.bool false,.bool false,.bool false,.bool false,.bool false,.bool false,.bool false,.bool false,.bool false,.bool false,.bool false,.bool false,.bool false,.bool false,.bool false,.bool false,.bool false,.bool false,.bool false,.bool false,.bool false,.bool false,.bool false,.bool false,.bool false,.bool false,.bool false,.bool false,.bool false,.bool false,.bool false,.bool false,.bool false,.bool false,.bool false,.bool false,.bool false,.bool false,.bool false,.bool false,.bool false,.bool false,.bool false,.bool false,.bool false,.bool false,.bool false,.bool false,.bool false,.bool false,.bool false,.bool false,.bool false,.bool false,.bool false,.bool false,.bool false,.bool false,.bool false,.bool false,.bool false,.bool false,.bool false,.bool false,.bool false,.bool false,.bool false,.bool false,.bool false,.bool false,.bool false,.bool false,.bool false,.bool false,.bool false,.bool false,.bool false,.bool false,.bool false,.bool false,.bool false,.bool false,.bool false,.bool false,.bool false,.bool false,.bool false,.bool false,.bool false,.bool false,.bool false,.bool false,.bool false,.bool false,.bool false,.bool false,.bool false,.bool false]⟩),
 (289,⟨1,8,.other,[.nilFunc]⟩),
 (290,⟨1,8,.ptr 275,[.nilptr]⟩),
 (292,⟨1,8,.other,[.nilFunc]⟩),
 (293,⟨1,8,.other,[.nilFunc]⟩),
 (294,⟨1,8,.other,[.nilFunc]⟩),
 (295,⟨1,8,.ptr 287,[.nilptr]⟩),
 (296,⟨256,256,.array 256 5,[.int .u8 0,.int .u8 0,.int .u8 0,.int .u8 0,.int .u8 0,.int .u8 0,.int .u8 0,.int .u8 0,.int .u8 0,.int .u8 0,.int .u8 0,.int .u8 0,.int .u8 0,.int .u8 0,.int .u8 0,.int .u8 0,.int .u8 0,.int .u8 0,.int .u8 0,.int .u8 0,.int .u8 0,.int .u8 0,.int .u8 0,.int .u8 0,.int .u8 0,.int .u8 0,.int .u8 0,.int .u8 0,.int .u8 0,.int .u8 0,.int .u8 0,.int .u8 0,.int .u8 0,.int .u8 0,.int .u8 0,.int .u8 0,.int .u8 0,.int .u8 0,.int .u8 0,.int .u8 0,.int .u8 0,.int .u8 0,.int .u8 0,.int .u8 0,.int .u8 0,.int .u8 0,.int .u8 0,.int .u8 0,.int .u8 0,.int .u8 0,.int .u8 0,.int .u8 0,.int .u8 0,.int .u8 0,.int .u8 0,.int .u8 0,.int .u8 0,.int .u8 0,.int .u8 0,.int .u8 0,.int .u8 0,.int .u8 0,.int .u8 0,.int .u8 0,.int .u8 0,.int .u8 0,.int .u8 0,.int .u8 0,.int .u8 0,.int .u8 0,.int .u8 0,.int .u8 0,.int .u8 0,.int .u8 0,.int .u8 0,.int .u8 0,.int .u8 0,.int .u8 0,.int .u8 0,.int .u8 0,.int .u8 0,.int .u8 0,.int .u8 0,.int .u8 0,.int .u8 0,.int .u8 0,.int .u8 0,.int .u8 0,.int .u8 0,.int .u8 0,.int .u8 0,.int .u8 0,.int .u8 0,.int .u8 0,.int .u8 0,.int .u8 0,.int .u8 0,.int .u8 0,.int .u8 0,.int .u8 0,.int .u8 0,.int .u8 0,.int .u8 0,.int .u8 0,.int .u8 0,.int .u8 0,.int .u8 0,.int .u8 0,.int .u8 0,.int .u8 0,.int .u8 0,.int .u8 0,.int .u8 0,.int .u8 0,.int .u8 0,.int .u8 0,.int .u8 0,.int .u8 0,.int .u8 0,.int .u8 0,.int .u8 0,.int .u8 0,.int .u8 0,.int .u8 0,.int .u8 0,.int .u8 0,.int .u8 0,.int .u8 0,.int .u8 0,.int .u8 0,.int .u8 0,.int .u8 0,.int .u8 0,.int .u8 0,.int .u8 0,.int .u8 0,.int .u8 0,.int .u8 0,.int .u8 0,.int .u8 0,.int .u8 0,.int .u8 0,.int .u8 0,.int .u8 0,.int .u8 0,.int .u8 0,.int .u8 0,.int .u8 0,.int .u8 0,.int .u8 0,.int .u8 0,.int .u8 0,.int .u8 0,.int .u8 0,.int .u8 0,.int .u8 0,.int .u8 0,.int .u8 0,.int .u8 0,.int .u8 0,.int .u8 0,.int .u8 0,.int .u8 0,.int .u8 0,.int .u8 0,.int .u8 0,.int .u8 0,.int .u8 0,.int .u8 0,.int .u8 0,.int .u8 0,.int .u8 0,.int .u8 0,.int .u8 0,.int .u8 0,.int .u8 0,.int .u8 0,.int .u8 0,.int .u8 0,.int .u8 0,.int .u8 0,.int .u8 0,.int .u8 0,.int .u8 0,.int .u8 0,.int .u8 0,.int .u8 0,.int .u8 0,.int .u8 0,.int .u8 0,.int .u8 0,.int .u8 0,.int .u8 0,.int .u8 0,.int .u8 0,.int .u8 0,.int .u8 0,.int .u8 0,.int .u8 0,.int .u8 0,.int .u8 0,.int .u8 0,.int .u8 0,.int .u8 0,.int .u8 0,.int .u8 0,.int .u8 0,.int .u8 0,.int .u8 0,.int .u8 0,.int .u8 0,.int .u8 0,.int .u8 0,.int .u8 0,.int .u8 0,.int .u8 0,.int .u8 0,.int .u8 0,.int .u8 0,.int .u8 0,.int .u8 0,.int .u8 0,.int .u8 0,.int .u8 0,.int .u8 0,.int .u8 0,.int .u8 0,.int .u8 0,.int .u8 0,.int .u8 0,.int .u8 0,.int .u8 0,.int .u8 0,.int .u8 0,.int .u8 0,.int .u8 0,.int .u8 0,.int .u8 0,.int .u8 0,.int .u8 0,.int .u8 0,.int .u8 0,.int .u8 0,.int .u8 0,.int .u8 0,.int .u8 0,.int .u8 0,.int .u8 0,.int .u8 0,.int .u8 0,.int .u8 0,.int .u8 0,.int .u8 0,.int .u8 0,.int .u8 0,.int .u8 0]⟩),
 (297,⟨2,2,.struct [(0,5),(1,5)],[.int .u8 0,.int .u8 0]⟩),
 (298,⟨2,2,.struct [(0,5),(1,5)],[.int .u8 0,.int .u8 0]⟩),
 (299,⟨32,32,.array 16 298,[.int .u8 0,.int .u8 0,.int .u8 0,.int .u8 0,.int .u8 0,.int .u8 0,.int .u8 0,.int .u8 0,.int .u8 0,.int .u8 0,.int .u8 0,.int .u8 0,.int .u8 0,.int .u8 0,.int .u8 0,.int .u8 0,.int .u8 0,.int .u8 0,.int .u8 0,.int .u8 0,.int .u8 0,.int .u8 0,.int .u8 0,.int .u8 0,.int .u8 0,.int .u8 0,.int .u8 0,.int .u8 0,.int .u8 0,.int .u8 0,.int .u8 0,.int .u8 0]⟩),
 (301,⟨1,8,.other,[.nilFunc]⟩),
 (302,⟨4,40,.struct [(0,17),(1,17),(2,17),(3,9)],[.nilptr,.nilptr,.nilptr,.str []]⟩),
 (303,⟨4,40,.struct [(0,17),(1,17),(2,17),(3,9)],[.nilptr,.nilptr,.nilptr,.str []]⟩),
 (304,⟨0,0,.array 0 16,[]⟩),
 (305,⟨0,0,.struct [(0,304)],[]⟩),
 (306,⟨0,0,.struct [(0,304)],[]⟩),
 (307,⟨1,1,.int .u8,[.int .u8 0]⟩),
 (308,⟨1,1,.int .u8,[.int .u8 0]⟩),
 (309,⟨1,8,.other,[.nilFunc]⟩),
 (310,⟨1,4,.int .i32,[.int .i32 0]⟩),
 (311,⟨1,4,.int .i32,[.int .i32 0]⟩),
 (312,⟨11,48,.struct [(0,12),(1,12),(2,270),(3,307),(4,5),(5,5),(6,308),(7,309),(8,112),(9,310),(10,311)],[.int .u64 0,.int .u64 0,.int .u32 0,.int .u8 0,.int .u8 0,.int .u8 0,.int .u8 0,.nilFunc,.nilptr,.int .i32 0,.int .i32 0]⟩),
 (313,⟨11,48,.struct [(0,12),(1,12),(2,270),(3,307),(4,5),(5,5),(6,308),(7,309),(8,112),(9,310),(10,311)],[.int .u64 0,.int .u64 0,.int .u32 0,.int .u8 0,.int .u8 0,.int .u8 0,.int .u8 0,.nilFunc,.nilptr,.int .i32 0,.int .i32 0]⟩),
 (314,⟨1,8,.other,[.nilFunc]⟩),
 (315,⟨1,8,.other,[.nilFunc]⟩),
 (316,⟨1,8,.other,[.nilFunc]⟩),
 (317,⟨1,8,.other,[.nilFunc]⟩),
 (318,⟨1,24,.slice 36,[.sl 0 [] .full]⟩),
 (319,⟨1,8,.other,[.nilFunc]⟩),
 (320,⟨1,8,.other,[.nilFunc]⟩),
 (321,⟨1,8,.other,[.nilFunc]⟩),
 (322,⟨1,8,.other,[.nilFunc]⟩),
 (323,⟨1,8,.other,[.nilFunc]⟩),
 (324,⟨1,8,.other,[.nilFunc]⟩),
 (325,⟨1,8,.other,[.nilFunc]⟩),
 (327,⟨1,8,.other,[.nilFunc]⟩),
 (328,⟨1,8,.other,[.nilFunc]⟩),
 (329,⟨1,24,.slice 175,[.sl 0 [] .full]⟩),
 (330,⟨1,8,.other,[.nilFunc]⟩)]
def eqs:List Go.TypeId:=[44,91,128,130,132,139,214,241]
theorem aF:Go.Ab.TabOK Tryz.prog lY:=Go.Ab.tabOK_of (by kernel_rfl)
end Go.Proofs.YthnhbmlefiafaaaGreatDoor
