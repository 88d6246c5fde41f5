/- Parts of the proof, one behind the other. No further condition. -/
import Derived.Test.YteliblifgdofgaaGreatDoorK19
import Derived.Test.YteliblifgdofgaaGreatDoorK13
import Derived.Test.YteliblifgdofgaaGreatDoorK18
import Derived.Test.YteliblifgdofgaaGreatDoorK14
import Derived.Test.YteliblifgdofgaaGreatDoorK12
import Derived.Test.YteliblifgdofgaaGreatDoorK15
import Derived.Test.YteliblifgdofgaaGreatDoorK07
set_option linter.unusedVariables false
set_option linter.unusedSimpArgs false
set_option maxRecDepth 100000
set_option maxHeartbeats 8000000
namespace Go.Proofs.YteliblifgdofgaaGreatDoor
open Go.Ab
structure Pn where
 session:Int
 at_:Int
deriving DecidableEq
def Pn.av (p:Pn):AV:=.agg [.int .i64 p.session,.int .i64 p.at_]
structure Sn where
 client:Int
 seq:Int
 code:Int
 n:Int
deriving DecidableEq
def Sn.av (p:Sn):AV:=.agg [.int .i64 p.client,.int .i64 p.seq,.int .i64 p.code,.int .i64 p.n]
structure Sg where
 last:Int
 mark:Int
 pairs:List Pr
 pins:List Pn
 seen:List Sn
deriving DecidableEq
def jE {α:Type} (q:α→Bool) (k:α→Int):Option Int→List α→Bool
 |_,[]=>true
 |none,x::r=>q x&&jE q k (some (k x)) r
 |some n,x::r=>q x&&decide (n < k x)&&jE q k (some (k x)) r
def pv {α:Type} (k:α→Int) (l:List α):Nat→Option Int
 |0=>none
 |i+1=>l[i]?.map k
theorem sO {α:Type} {q:α→Bool} {k:α→Int}:∀{l:List α} {p:Option Int},jE q k p l=true→∀x,x∈l→q x=true
 |y::r,p,h,x,hx=>by
  have h2:q y=true∧jE q k (some (k y)) r=true:=by
   cases p with
   |none=>simpa [jE] using h
   |some n=>
    simp[jE] at h
    exact⟨h.1.1,h.2⟩
  rcases List.mem_cons.1 hx with rfl|hx
  ·exact h2.1
  ·exact sO h2.2 x hx
def fV (p:Pn):Bool:=decide (0≤p.session)&&decide (p.session≤1000000)&&decide (0≤p.at_)&&decide (p.at_≤1000000000)
def iF (p:Sn):Bool:=decide (0≤p.client)&&decide (p.client≤1000000)&&decide (1≤p.seq)&&decide (p.seq≤1000000000)&&decide (0≤p.code)&&decide (p.code≤1000)&&decide (0≤p.n)&&decide (p.n≤1000000000)
def lU (l:List Pn):Bool:=jE fV Pn.session none l&&decide (l.length≤50)
def mN (l:List Sn):Bool:=jE iF Sn.client none l&&decide (l.length≤50)
def cJ (s:Sg):Bool:=decide (0≤s.mark)&&decide (s.mark≤s.last)&&decide (s.last≤1000000000)&&decide (s.pairs.length≤200)&&decide (bT s.pairs)&&dZ s.pairs&&decide (eX s.pairs≤s.last)&&lU s.pins&&mN s.seen
structure dX (s:Sg):Prop where
 mark0:0≤s.mark
 mark:s.mark≤s.last
 last:s.last≤1000000000
 many:s.pairs.length≤200
 rise:bT s.pairs
 st:dZ s.pairs=true
 top:eX s.pairs≤s.last
 pins:jE fV Pn.session none s.pins=true
 pinsN:s.pins.length≤50
 seen:jE iF Sn.client none s.seen=true
 seenN:s.seen.length≤50
theorem cE {s:Sg}:cJ s=true↔dX s:=by
 unfold cJ lU mN
 constructor
 ·intro h
  simp at h
  obtain⟨⟨⟨⟨⟨⟨⟨⟨a,b⟩,c⟩,d⟩,e⟩,f⟩,g⟩,i,j⟩,k,l⟩:=h
  exact⟨a,b,c,d,e,f,g,i,j,k,l⟩
 ·rintro⟨a,b,c,d,e,f,g,i,j,k,l⟩
  simp[a,b,c,d,f,g,i,j,k,l]
  exact e
theorem M9 {l:List Pr} (h:bT l):OW l=l:=by
 have key:∀(b a:List Pr),bT (a++b)→b.foldl cQ a=a++b:=by
  intro b
  induction b with
  |nil=>intro a _;simp
  |cons x r ih=>
   intro a hr
   have e:a++x::r=(a++[x])++r:=by simp
   have hx:cQ a x=a++[x]:=by
    have:=yV (a:=a) (b:=[]) (p:=x) (fun y hy=>(List.pairwise_append.1 hr).2.2 y hy x (by simp))
    rw[List.append_nil] at this
    exact this
   rw[List.foldl_cons,hx,ih _ (by rw[←e];exact hr),e]
 exact key l [] h
theorem mI {l:List Pr} (h:bT l) (hn:l.length < 1000000):(gL l).all=l:=(IJ hn).1.trans (M9 h)
def cD (l:List Pn) (t:eE):AV:=.sl 2 (l.map Pn.av) t
def cU (l:List Sn) (t:eE):AV:=.sl 4 (l.map Sn.av) t
theorem qK (p:Pn):∀c,c∈p.av.cells→aN c:=aV aB aB
theorem rJ (p:Sn):∀c,c∈p.av.cells→aN c:=aY aB (bK aB aB aB)
theorem C4 (p:Pn):aN p.av:=bU (qK p)
theorem lR (p:Sn):aN p.av:=bU (rJ p)
theorem cV (l:List Pn) {t:eE} (h:t=.none∨t=.full):aN (cD l t):=bR h (fun x hx=>by obtain⟨p,_,rfl⟩:=List.mem_map.1 hx;exact C4 p) (fun x hx=>by obtain⟨p,_,rfl⟩:=List.mem_map.1 hx;exact qK p)
theorem cT (l:List Sn) {t:eE} (h:t=.none∨t=.full):aN (cU l t):=bR h (fun x hx=>by obtain⟨p,_,rfl⟩:=List.mem_map.1 hx;exact lR p) (fun x hx=>by obtain⟨p,_,rfl⟩:=List.mem_map.1 hx;exact rJ p)
theorem PC {α:Type} {q:α→Bool} {k:α→Int} {p:Option Int} {x:α} {r:List α} (h:q x=false):jE q k p (x::r)=false:=by
 cases p<;>simp[jE,h]
theorem OB {α:Type} {q:α→Bool} {k:α→Int} {n:Int} {x:α} {r:List α} (h:¬n < k x):jE q k (some n) (x::r)=false:=by
 simp[jE,h]
theorem NY {α:Type} {q:α→Bool} {k:α→Int} {x:α} {r:List α} (h:q x=true):jE q k none (x::r)=jE q k (some (k x)) r:=by
 simp[jE,h]
theorem NX {α:Type} {q:α→Bool} {k:α→Int} {n:Int} {x:α} {r:List α} (h:q x=true) (h2:n < k x):jE q k (some n) (x::r)=jE q k (some (k x)) r:=by
 simp[jE,h,h2]
theorem DC {α:Type} {k:α→Int} {l:List α} {i:Nat} {x:α} (h:l[i]? =some x):pv k l (i+1)=some (k x):=by
 show l[i]?.map k=some (k x)
 rw[h]
 rfl
theorem ZP {α:Type} {l:List α} {i:Nat} {x:α} (h:l[i]? =some x):l.drop i=x::l.drop (i+1):=by
 obtain⟨h1,rfl⟩:=List.getElem?_eq_some_iff.1 h
 exact List.drop_eq_getElem_cons h1
theorem a9k (n:Nat):decide ((n:Int)≤50)=decide (n≤50):=decide_eq_decide.2 (by omega)
def XQ (n a b:Int):Bool:=decide (a≤n)&&decide (n≤b)
theorem XZ (p:Sn):iF p=(((XQ p.client 0 1000000&&XQ p.seq 1 1000000000)&&XQ p.code 0 1000)&&XQ p.n 0 1000000000):=by
 simp[iF,XQ,Bool.and_assoc]
theorem OJ (p:Pn):aO Tryz.prog 270 [p.av] (.bool (fV p)):=by
 intro M
 refine aC aF Tryz.func270 rfl (by decide) (by simp[Tryz.f270]) ?_
 unfold fV Pn.av
 cases h1:decide (0≤p.session)
 ·repeat' (first|refine zB rfl h1 ?_|refine zA rfl ?_|refine aA ?_|refine aL rfl ?_)
  exact⟨rfl,_,rfl,rfl,rfl⟩
 ·skip
  cases h2:decide (p.session≤1000000)
  ·repeat' (first|refine zB rfl (by first|exact h1|exact h2) ?_|refine zA rfl ?_|refine aA ?_|refine aL rfl ?_)
   exact⟨rfl,_,rfl,rfl,rfl⟩
  ·skip
   cases h3:decide (0≤p.at_)
   ·repeat' (first|refine zB rfl (by first|exact h1|exact h2|exact h3) ?_|refine zA rfl ?_|refine aA ?_|refine aL rfl ?_)
    exact⟨rfl,_,rfl,rfl,rfl⟩
   ·skip
    cases h4:decide (p.at_≤1000000000)
    ·repeat' (first|refine zB rfl (by first|exact h1|exact h2|exact h3|exact h4) ?_|refine zA rfl ?_|refine aA ?_|refine aL rfl ?_)
     exact⟨rfl,_,rfl,rfl,rfl⟩
    ·repeat' (first|refine zB rfl (by first|exact h1|exact h2|exact h3|exact h4) ?_|refine zA rfl ?_|refine aA ?_|refine aL rfl ?_)
     exact⟨rfl,_,rfl,rfl,rfl⟩
theorem FQ (n a b:Int):aO Tryz.prog 278 [.int .i64 n,.int .i64 a,.int .i64 b] (.bool (XQ n a b)):=by
 intro M
 refine aC aF Tryz.func278 rfl (by decide) (by simp[Tryz.f278]) ?_
 unfold XQ
 cases h1:decide (a≤n)
 ·repeat' (first|refine zB rfl h1 ?_|refine zA rfl ?_|refine aA ?_|refine aL rfl ?_)
  exact⟨rfl,_,rfl,rfl,rfl⟩
 ·skip
  cases h2:decide (n≤b)
  ·repeat' (first|refine zB rfl (by first|exact h1|exact h2) ?_|refine zA rfl ?_|refine aA ?_|refine aL rfl ?_)
   exact⟨rfl,_,rfl,rfl,rfl⟩
  ·repeat' (first|refine zB rfl (by first|exact h1|exact h2) ?_|refine zA rfl ?_|refine aA ?_|refine aL rfl ?_)
   exact⟨rfl,_,rfl,rfl,rfl⟩
theorem PF (p:Sn):aO Tryz.prog 216 [p.av] (.bool (iF p)):=by
 intro M
 refine aC aF Tryz.func216 rfl (by decide) (by simp[Tryz.f216]) ?_
 have k1:=FQ p.client 0 1000000
 have k2:=FQ p.seq 1 1000000000
 have k3:=FQ p.code 0 1000
 have k4:=FQ p.n 0 1000000000
 rw[XZ]
 unfold Sn.av
 cases h1:XQ p.client 0 1000000
 ·rw[h1] at k1
  repeat' (first|refine zA rfl ?_|refine aA ?_|refine aL rfl ?_|refine aH rfl k1 ?_)
  exact⟨rfl,_,rfl,rfl,rfl⟩
 ·rw[h1] at k1
  cases h2:XQ p.seq 1 1000000000
  ·rw[h2] at k2
   repeat' (first|refine zA rfl ?_|refine aA ?_|refine aL rfl ?_|refine aH rfl k1 ?_|refine aH rfl k2 ?_)
   exact⟨rfl,_,rfl,rfl,rfl⟩
  ·rw[h2] at k2
   cases h3:XQ p.code 0 1000
   ·rw[h3] at k3
    repeat' (first|refine zA rfl ?_|refine aA ?_|refine aL rfl ?_|refine aH rfl k1 ?_|refine aH rfl k2 ?_|refine aH rfl k3 ?_)
    exact⟨rfl,_,rfl,rfl,rfl⟩
   ·rw[h3] at k3
    cases h4:XQ p.n 0 1000000000
    ·rw[h4] at k4
     repeat' (first|refine zA rfl ?_|refine aA ?_|refine aL rfl ?_|refine aH rfl k1 ?_|refine aH rfl k2 ?_|refine aH rfl k3 ?_|refine aH rfl k4 ?_)
     exact⟨rfl,_,rfl,rfl,rfl⟩
    ·rw[h4] at k4
     repeat' (first|refine zA rfl ?_|refine aA ?_|refine aL rfl ?_|refine aH rfl k1 ?_|refine aH rfl k2 ?_|refine aH rfl k3 ?_|refine aH rfl k4 ?_)
     exact⟨rfl,_,rfl,rfl,rfl⟩
def vC (l:List Pn) (i:Nat):AF:=⟨[(0,cD l .none),(5,cD l .none),(6,.int .i64 (l.length:Int)),(7,.int .i64 (i:Int))],[]⟩
theorem yL (l:List Pn) (hl:l.length < 1000000):aO Tryz.prog 206 [cD l .none] (.bool (jE fV Pn.session none l&&decide (l.length≤50))):=by
 refine aU (aX (cV l (.inl rfl))) (aK) ?_
 refine aC aF Tryz.func206 rfl (by decide) (by simp[Tryz.f206]) ?_
 have la:=bA Pn.av l
 have hc:=cV l (t:=.none) (.inl rfl)
 have h50:=a9k l.length
 unfold cD at*
 repeat' (first|refine zI rfl la ?_|refine zA rfl ?_|refine aA ?_|refine aL rfl ?_)
 refine bC l.length (fun i f N=>N=⟨0,[]⟩∧jE fV Pn.session none l=jE fV Pn.session (pv Pn.session l i) (l.drop i)∧f=vC l i) (Nat.zero_le _) ⟨rfl,rfl,rfl⟩ (aR.le ?_ (aG.le_nil rfl)) ?_
 ·unfold vC cD
  repeat (refine AF.le_cons rfl ?_)
  exact AF.le_nil rfl
 rintro i f N hi ⟨rfl,hinv,rfl⟩
 unfold vC cD
 by_cases h1:i < l.length
 ·have d1:decide ((i:Int) < (l.length:Int))=true:=decide_eq_true (by omega)
  have hx:l[i]? =some l[i]:=List.getElem?_eq_getElem h1
  have fi:=aZ (i:=i) (by omega)
  generalize l[i]=x at hx
  rw[ZP hx] at hinv
  have fin:∀{f:AF} {M:aG},jE fV Pn.session none l=jE fV Pn.session (pv Pn.session l (i+1)) (l.drop (i+1))→f.d=[]→aI 0 (f.get 0) (cD l .none)→aI 0 (f.get 5) (cD l .none)→aI 0 (f.get 6) (.int .i64 (l.length:Int))→aI 0 (f.get 7) (.int .i64 ((i+1:Nat):Int))→∃f'' N,(N=⟨0,[]⟩∧jE fV Pn.session none l=jE fV Pn.session (pv Pn.session l (i+1)) (l.drop (i+1))∧f''=vC l (i+1))∧aR 0 f M f'' N:=fun {f M} hq h0 q1 q2 q3 q4=>
   ⟨vC l (i+1),⟨0,[]⟩,⟨rfl,hq,rfl⟩,aR.cut (k:=0) (t:=(vC l (i+1)).t) (l:=[]) (Nat.le_refl _) (Nat.zero_le _) h0 ⟨q1,q2,q3,q4,trivial⟩ trivial⟩
  have km:=OJ x
  unfold Pn.av at km
  cases hm:fV x
  ·rw[hm] at km
   rw[hinv,PC hm]
   repeat' (first|refine zB rfl d1 ?_|refine zA rfl ?_|refine aA ?_|refine aL rfl ?_|refine aH rfl km ?_|refine zX rfl (fB hx) ?_|refine aW mixed [0,1,2,3,4,5,6,7,8,9,10,11,12,13,14,15,16,17] [.R,.P,.P,.P,.P,.P,.P,.P,.P,.P,.R,.R,.R,.R,.R,.P,.P,.P] rfl rfl (by kernel_rfl) ?_)
   exact⟨rfl,_,rfl,_,rfl,aI.of_closed aK⟩
  ·rw[hm] at km
   by_cases h0:i=0
   ·subst h0
    have e:=hinv.trans (NY hm)
    rw[←DC hx] at e
    repeat' (first|refine zB rfl d1 ?_|refine zI rfl (by first|exact la|exact fi) ?_|refine zA rfl ?_|refine aA ?_|refine aL rfl ?_|refine aH rfl km ?_|refine zX rfl (fB hx) ?_|refine aW mixed [0,1,2,3,4,5,6,7,8,9,10,11,12,13,14,15,16,17] [.R,.P,.P,.P,.P,.P,.P,.P,.P,.P,.R,.R,.R,.R,.R,.P,.P,.P] rfl rfl (by kernel_rfl) ?_)
    refine⟨h1,fin e rfl ?_ ?_ ?_ ?_⟩
    ·exact aI.of_closed hc
    ·exact aI.of_closed hc
    ·exact aI.of_closed aB
    ·exact aI.of_closed aB
   ·obtain⟨k,rfl⟩:∃k,i=k+1:=⟨i - 1,by omega⟩
    have d4:decide ((0:Int) < ((k+1:Nat):Int))=true:=decide_eq_true (by omega)
    have w1:IntKind.wrap .i64 (((k+1:Nat):Int) - 1)=(k:Int):=(Go.Ab.wrap_small (by omega) (by omega)).trans (by omega)
    have hy:l[k]? =some l[k]:=List.getElem?_eq_getElem (by omega)
    generalize l[k]=y at hy
    rw[DC hy] at hinv
    by_cases h2:y.session < x.session
    ·have d5:decide (x.session≤y.session)=false:=decide_eq_false (by omega)
     have e:=hinv.trans (NX hm h2)
     rw[←DC hx] at e
     repeat' (first|refine zB rfl (by first|exact d1|exact d4|exact d5) ?_|refine zI rfl (by first|exact la|exact fi|exact w1) ?_|refine zA rfl ?_|refine aA ?_|refine aL rfl ?_|refine aH rfl km ?_|refine zX rfl (fB hx) ?_|refine zX rfl (fB hy) ?_|refine aW mixed [0,1,2,3,4,5,6,7,8,9,10,11,12,13,14,15,16,17] [.R,.P,.P,.P,.P,.P,.P,.P,.P,.P,.R,.R,.R,.R,.R,.P,.P,.P] rfl rfl (by kernel_rfl) ?_)
     refine⟨h1,fin e rfl ?_ ?_ ?_ ?_⟩
     ·exact aI.of_closed hc
     ·exact aI.of_closed hc
     ·exact aI.of_closed aB
     ·exact aI.of_closed aB
    ·have d5:decide (x.session≤y.session)=true:=decide_eq_true (by omega)
     rw[hinv,OB h2]
     repeat' (first|refine zB rfl (by first|exact d1|exact d4|exact d5) ?_|refine zI rfl (by first|exact la|exact w1) ?_|refine zA rfl ?_|refine aA ?_|refine aL rfl ?_|refine aH rfl km ?_|refine zX rfl (fB hx) ?_|refine zX rfl (fB hy) ?_|refine aW mixed [0,1,2,3,4,5,6,7,8,9,10,11,12,13,14,15,16,17] [.R,.P,.P,.P,.P,.P,.P,.P,.P,.P,.R,.R,.R,.R,.R,.P,.P,.P] rfl rfl (by kernel_rfl) ?_)
     exact⟨rfl,_,rfl,_,rfl,aI.of_closed aK⟩
 ·have d1:decide ((i:Int) < (l.length:Int))=false:=decide_eq_false (by omega)
  obtain rfl:i=l.length:=by omega
  rw[List.drop_length] at hinv
  have e:jE fV Pn.session none l=true:=by
   rw[hinv]
   cases pv Pn.session l l.length<;>rfl
  rw[e,←h50]
  repeat' (first|refine zB rfl d1 ?_|refine zI rfl la ?_|refine zA rfl ?_|refine aA ?_|refine aL rfl ?_)
  exact⟨rfl,_,rfl,_,rfl,aI.of_closed aK⟩
def oP (l:List Sn) (i:Nat):AF:=⟨[(0,cU l .none),(5,cU l .none),(6,.int .i64 (l.length:Int)),(7,.int .i64 (i:Int))],[]⟩
theorem CW (l:List Sn) (hl:l.length < 1000000):aO Tryz.prog 207 [cU l .none] (.bool (jE iF Sn.client none l&&decide (l.length≤50))):=by
 refine aU (aX (cT l (.inl rfl))) (aK) ?_
 refine aC aF Tryz.func207 rfl (by decide) (by simp[Tryz.f207]) ?_
 have la:=bA Sn.av l
 have hc:=cT l (t:=.none) (.inl rfl)
 have h50:=a9k l.length
 unfold cU at*
 repeat' (first|refine zI rfl la ?_|refine zA rfl ?_|refine aA ?_|refine aL rfl ?_)
 refine bC l.length (fun i f N=>N=⟨0,[]⟩∧jE iF Sn.client none l=jE iF Sn.client (pv Sn.client l i) (l.drop i)∧f=oP l i) (Nat.zero_le _) ⟨rfl,rfl,rfl⟩ (aR.le ?_ (aG.le_nil rfl)) ?_
 ·unfold oP cU
  repeat (refine AF.le_cons rfl ?_)
  exact AF.le_nil rfl
 rintro i f N hi ⟨rfl,hinv,rfl⟩
 unfold oP cU
 by_cases h1:i < l.length
 ·have d1:decide ((i:Int) < (l.length:Int))=true:=decide_eq_true (by omega)
  have hx:l[i]? =some l[i]:=List.getElem?_eq_getElem h1
  have fi:=aZ (i:=i) (by omega)
  generalize l[i]=x at hx
  rw[ZP hx] at hinv
  have fin:∀{f:AF} {M:aG},jE iF Sn.client none l=jE iF Sn.client (pv Sn.client l (i+1)) (l.drop (i+1))→f.d=[]→aI 0 (f.get 0) (cU l .none)→aI 0 (f.get 5) (cU l .none)→aI 0 (f.get 6) (.int .i64 (l.length:Int))→aI 0 (f.get 7) (.int .i64 ((i+1:Nat):Int))→∃f'' N,(N=⟨0,[]⟩∧jE iF Sn.client none l=jE iF Sn.client (pv Sn.client l (i+1)) (l.drop (i+1))∧f''=oP l (i+1))∧aR 0 f M f'' N:=fun {f M} hq h0 q1 q2 q3 q4=>
   ⟨oP l (i+1),⟨0,[]⟩,⟨rfl,hq,rfl⟩,aR.cut (k:=0) (t:=(oP l (i+1)).t) (l:=[]) (Nat.le_refl _) (Nat.zero_le _) h0 ⟨q1,q2,q3,q4,trivial⟩ trivial⟩
  have km:=PF x
  unfold Sn.av at km
  cases hm:iF x
  ·rw[hm] at km
   rw[hinv,PC hm]
   repeat' (first|refine zB rfl d1 ?_|refine zA rfl ?_|refine aA ?_|refine aL rfl ?_|refine aH rfl km ?_|refine zX rfl (fB hx) ?_|refine aW mixed [0,1,2,3,4,5,6,7,8,9,10,11,12,13,14,15,16,17] [.R,.P,.P,.P,.P,.P,.P,.P,.P,.P,.R,.R,.R,.R,.R,.P,.P,.P] rfl rfl (by kernel_rfl) ?_)
   exact⟨rfl,_,rfl,_,rfl,aI.of_closed aK⟩
  ·rw[hm] at km
   by_cases h0:i=0
   ·subst h0
    have e:=hinv.trans (NY hm)
    rw[←DC hx] at e
    repeat' (first|refine zB rfl d1 ?_|refine zI rfl (by first|exact la|exact fi) ?_|refine zA rfl ?_|refine aA ?_|refine aL rfl ?_|refine aH rfl km ?_|refine zX rfl (fB hx) ?_|refine aW mixed [0,1,2,3,4,5,6,7,8,9,10,11,12,13,14,15,16,17] [.R,.P,.P,.P,.P,.P,.P,.P,.P,.P,.R,.R,.R,.R,.R,.P,.P,.P] rfl rfl (by kernel_rfl) ?_)
    refine⟨h1,fin e rfl ?_ ?_ ?_ ?_⟩
    ·exact aI.of_closed hc
    ·exact aI.of_closed hc
    ·exact aI.of_closed aB
    ·exact aI.of_closed aB
   ·obtain⟨k,rfl⟩:∃k,i=k+1:=⟨i - 1,by omega⟩
    have d4:decide ((0:Int) < ((k+1:Nat):Int))=true:=decide_eq_true (by omega)
    have w1:IntKind.wrap .i64 (((k+1:Nat):Int) - 1)=(k:Int):=(Go.Ab.wrap_small (by omega) (by omega)).trans (by omega)
    have hy:l[k]? =some l[k]:=List.getElem?_eq_getElem (by omega)
    generalize l[k]=y at hy
    rw[DC hy] at hinv
    by_cases h2:y.client < x.client
    ·have d5:decide (x.client≤y.client)=false:=decide_eq_false (by omega)
     have e:=hinv.trans (NX hm h2)
     rw[←DC hx] at e
     repeat' (first|refine zB rfl (by first|exact d1|exact d4|exact d5) ?_|refine zI rfl (by first|exact la|exact fi|exact w1) ?_|refine zA rfl ?_|refine aA ?_|refine aL rfl ?_|refine aH rfl km ?_|refine zX rfl (fB hx) ?_|refine zX rfl (fB hy) ?_|refine aW mixed [0,1,2,3,4,5,6,7,8,9,10,11,12,13,14,15,16,17] [.R,.P,.P,.P,.P,.P,.P,.P,.P,.P,.R,.R,.R,.R,.R,.P,.P,.P] rfl rfl (by kernel_rfl) ?_)
     refine⟨h1,fin e rfl ?_ ?_ ?_ ?_⟩
     ·exact aI.of_closed hc
     ·exact aI.of_closed hc
     ·exact aI.of_closed aB
     ·exact aI.of_closed aB
    ·have d5:decide (x.client≤y.client)=true:=decide_eq_true (by omega)
     rw[hinv,OB h2]
     repeat' (first|refine zB rfl (by first|exact d1|exact d4|exact d5) ?_|refine zI rfl (by first|exact la|exact w1) ?_|refine zA rfl ?_|refine aA ?_|refine aL rfl ?_|refine aH rfl km ?_|refine zX rfl (fB hx) ?_|refine zX rfl (fB hy) ?_|refine aW mixed [0,1,2,3,4,5,6,7,8,9,10,11,12,13,14,15,16,17] [.R,.P,.P,.P,.P,.P,.P,.P,.P,.P,.R,.R,.R,.R,.R,.P,.P,.P] rfl rfl (by kernel_rfl) ?_)
     exact⟨rfl,_,rfl,_,rfl,aI.of_closed aK⟩
 ·have d1:decide ((i:Int) < (l.length:Int))=false:=decide_eq_false (by omega)
  obtain rfl:i=l.length:=by omega
  rw[List.drop_length] at hinv
  have e:jE iF Sn.client none l=true:=by
   rw[hinv]
   cases pv Sn.client l l.length<;>rfl
  rw[e,←h50]
  repeat' (first|refine zB rfl d1 ?_|refine zI rfl la ?_|refine zA rfl ?_|refine aA ?_|refine aL rfl ?_)
  exact⟨rfl,_,rfl,_,rfl,aI.of_closed aK⟩
def m1:Mt:=⟨1,0,[]⟩
def v1:aD:=(cL m1 false).1
def l1:List Pr:=[⟨⟨[97],1⟩,v1⟩,⟨⟨[98],1⟩,v1⟩]
def l3:List Pr:=[⟨⟨[97],3⟩,[0]⟩,⟨⟨[97],1⟩,v1⟩,⟨⟨[98],1⟩,v1⟩]
def prA (l:List Pr):AV:=.sl 3 (l.map Pr.av) .none
theorem r9 (l:List Pr):aN (prA l):=g9 (fun p=>iW p) (fun p c hc=>by
 have:c∈[AV.str p.key.path,.int .i64 p.key.time,.str p.val]:=hc
 exact bK aP aB aP c this)
def Sg.cells (s:Sg):List AV:=[.int .i64 s.last,.int .i64 s.mark,.sl 3 (s.pairs.map Pr.av) .none,cD s.pins .none,cU s.seen .none]
def Sg.av (s:Sg):AV:=.agg s.cells
theorem L1 (s:Sg):∀c,c∈s.cells→aN c:=aY aB (aY aB (bK (bW _) (cV _ (.inl rfl)) (cT _ (.inl rfl))))
theorem dK (s:Sg):aN s.av:=bU (L1 s)
theorem a6c (l:List Pr) (tg:eE) (hl:l.length < 1000000):aO Tryz.prog 204 [.sl 3 (l.map Pr.av) tg] (.bool (decide (bT l))):=by
 intro M
 refine aC aF Tryz.func204 rfl (by decide) (by simp[Tryz.f204]) ?_
 have la:=bA Pr.av l
 by_cases h0:l=[]
 ·subst h0
  repeat' (first|refine zA rfl ?_|refine aA ?_|refine aL rfl ?_)
  refine bC 0 (fun i f N=>N=M∧f=⟨[(0,.sl 3 ([].map Pr.av) tg),(3,.int .i64 ((i+1:Nat):Int))],[]⟩) (Nat.zero_le _) ⟨rfl,rfl⟩ (aR.le ?_ (aG.le_refl _)) ?_
  ·skip
   repeat (refine AF.le_cons rfl ?_)
   exact AF.le_nil rfl
  rintro i f N hi ⟨rfl,rfl⟩
  obtain rfl:i=0:=by omega
  repeat' (first|refine zA rfl ?_|refine aA ?_|refine aL rfl ?_)
  exact⟨rfl,_,rfl,by rw[decide_eq_true (List.Pairwise.nil:bT [])];rfl,rfl⟩
 ·have hpos:0 < l.length:=List.length_pos_iff.2 h0
  repeat' (first|refine zA rfl ?_|refine aA ?_|refine aL rfl ?_)
  refine bC (l.length - 1) (fun i f N=>N=M∧(∀(j:Nat) a b,j < i→l[j]? =some a→l[j+1]? =some b→bI a.key b.key=true)∧f=⟨[(0,.sl 3 (l.map Pr.av) tg),(3,.int .i64 ((i+1:Nat):Int))],[]⟩) (Nat.zero_le _) ⟨rfl,fun j a b hj=>absurd hj (Nat.not_lt_zero _),rfl⟩ (aR.le ?_ (aG.le_refl _)) ?_
  ·skip
   repeat (refine AF.le_cons rfl ?_)
   exact AF.le_nil rfl
  rintro i f N hi ⟨rfl,hinv,rfl⟩
  by_cases h1:i < l.length - 1
  ·have d1:decide (((i+1:Nat):Int) < (l.length:Int))=true:=by simp;omega
   have hx:l[i]? =some l[i]:=List.getElem?_eq_getElem (by omega)
   have hy:l[i+1]? =some l[i+1]:=List.getElem?_eq_getElem (by omega)
   have fi:=aZ (i:=i+1) (by omega)
   have w1:IntKind.wrap .i64 (((i+1:Nat):Int) - 1)=(i:Int):=(Go.Ab.wrap_small (by omega) (by omega)).trans (by omega)
   generalize l[i]=x at hx
   generalize l[i+1]=y at hy
   have kl:=FR x.key y.key
   rw[FD] at kl
   unfold Ky.av at kl
   cases h3:bI x.key y.key
   ·rw[h3] at kl
    have e:decide (bT l)=false:=decide_eq_false fun hr=>by rw[a1m hr (Nat.lt_succ_self i) hx hy] at h3;cases h3
    rw[e]
    repeat' (first|refine zB rfl d1 ?_|refine zI rfl (by first|exact fi|exact la|exact w1) ?_|refine zA rfl ?_|refine aA ?_|refine aL rfl ?_|refine aH rfl kl ?_|refine zX rfl (fB hx) ?_|refine zX rfl (fB hy) ?_|refine aW mixed [0,1,2,6,7,3,4,5,8,9,10,11,12] [.P,.P,.P,.R,.R,.R,.P,.P,.R,.R,.R,.P,.P] rfl rfl (by kernel_rfl) ?_)
    exact⟨rfl,_,rfl,rfl,rfl⟩
   ·rw[h3] at kl
    repeat' (first|refine zB rfl d1 ?_|refine zI rfl (by first|exact fi|exact la|exact w1) ?_|refine zA rfl ?_|refine aA ?_|refine aL rfl ?_|refine aH rfl kl ?_|refine zX rfl (fB hx) ?_|refine zX rfl (fB hy) ?_|refine aW mixed [0,1,2,6,7,3,4,5,8,9,10,11,12] [.P,.P,.P,.R,.R,.R,.P,.P,.R,.R,.R,.P,.P] rfl rfl (by kernel_rfl) ?_)
    refine⟨h1,_,_,⟨rfl,?_,rfl⟩,aR.le ?_ (aG.le_refl _)⟩
    ·intro j a b hj ha hb
     by_cases hji:j=i
     ·subst hji
      rw[hx] at ha;rw[hy] at hb
      cases ha;cases hb
      exact h3
     ·exact hinv j a b (by omega) ha hb
    ·skip
     repeat (refine AF.le_cons rfl ?_)
     exact AF.le_nil rfl
  ·have d1:decide (((i+1:Nat):Int) < (l.length:Int))=false:=by simp;omega
   have e:decide (bT l)=true:=decide_eq_true (J5 l fun j a b ha hb=>hinv j a b (by have:=(List.getElem?_eq_some_iff.1 hb).1;omega) ha hb)
   rw[e]
   repeat' (first|refine zB rfl d1 ?_|refine zI rfl la ?_|refine zA rfl ?_|refine aA ?_|refine aL rfl ?_)
   exact⟨rfl,_,rfl,rfl,rfl⟩
noncomputable def dtF (s:Sg) (i:Nat):AF:=⟨[(3,(gL (s.pairs.take i)).av),(8,.sl 3 (s.pairs.map Pr.av) .none),(9,.int .i64 (s.pairs.length:Int)),(10,.int .i64 (i:Int))],[]⟩
theorem xX (s:Sg) (hl:s.pairs.length < 1000):aO Tryz.prog 67 [s.av] (gL s.pairs).av:=by
 refine aU (aX (dK s)) (bG _) ?_
 refine aC aF Tryz.func67 rfl (by decide) (by simp[Tryz.f67]) ?_
 have la:=bA Pr.av s.pairs
 have k0:=a74
 unfold Sg.av Sg.cells
 repeat' (first|refine zI rfl la ?_|refine zA rfl ?_|refine aA ?_|refine aL rfl ?_|refine aH rfl k0 ?_)
 refine bC s.pairs.length (fun i f N=>N=⟨0,[]⟩∧f=dtF s i) (Nat.zero_le _) ⟨rfl,rfl⟩ (aR.le ?_ (aG.le_nil rfl)) ?_
 ·unfold dtF
  repeat (refine AF.le_cons rfl ?_)
  exact AF.le_nil rfl
 rintro i f N hi ⟨rfl,rfl⟩
 unfold dtF
 by_cases h1:i < s.pairs.length
 ·have d1:decide ((i:Int) < (s.pairs.length:Int))=true:=decide_eq_true (by omega)
  have hx:s.pairs[i]? =some s.pairs[i]:=List.getElem?_eq_getElem h1
  have fi:=aZ (i:=i) (by omega)
  have ht:=bM hx
  generalize s.pairs[i]=x at hx ht
  have hall:=(IJ (l:=s.pairs.take i) (by simp;omega))
  have kp:=PZ (t:=gL (s.pairs.take i)) (p:=x) (by rw[hall.1];have:=hall.2;simp at this;omega)
  rw[←NB ht] at kp
  have hc:=bG (gL (s.pairs.take (i+1)))
  unfold Pr.av at kp
  unfold Tr.av at kp ⊢
  repeat' (first|refine zB rfl d1 ?_|refine zI rfl fi ?_|refine zA rfl ?_|refine aA ?_|refine aL rfl ?_|refine aH rfl kp ?_|refine zX rfl (fB hx) ?_)
  refine⟨h1,dtF s (i+1),⟨0,[]⟩,⟨rfl,rfl⟩,aR.cut (k:=0) (t:=(dtF s (i+1)).t) (l:=[]) (Nat.le_refl _) (Nat.zero_le _) rfl ⟨?_,?_,?_,?_,trivial⟩ trivial⟩
  ·exact aI.of_closed hc
  ·exact aI.of_closed (bW _)
  ·exact aI.of_closed aB
  ·exact aI.of_closed aB
 ·have d1:decide ((i:Int) < (s.pairs.length:Int))=false:=decide_eq_false (by omega)
  obtain rfl:i=s.pairs.length:=by omega
  rw[List.take_length]
  have hc:=bG (gL s.pairs)
  generalize gL s.pairs=T at*
  unfold Tr.av at hc ⊢
  repeat' (first|refine zB rfl d1 ?_|refine zA rfl ?_|refine aA ?_|refine aL rfl ?_)
  exact⟨rfl,_,rfl,_,rfl,aI.of_closed hc⟩
structure oT (s:Sg):Prop where
 pairs:s.pairs.length < 1000
 vals:cP s.pairs
 pins:s.pins.length < 1000
 seen:s.seen.length < 1000
theorem a5k (s:Sg) (hs:oT s):aO Tryz.prog 165 [s.av] (.bool (cJ s)):=by
 refine aU (aX (dK s)) (aK) ?_
 refine aC aF Tryz.func165 rfl (by decide) (by simp[Tryz.f165]) ?_
 have hn:=hs.pairs
 have kn:=a6c s.pairs .none (by omega)
 have kt:=xX s hn
 have kp:aO Tryz.prog 206 [cD s.pins .none] (.bool (lU s.pins)):=yL s.pins (by have:=hs.pins;omega)
 have kq:aO Tryz.prog 207 [cU s.seen .none] (.bool (mN s.seen)):=CW s.seen (by have:=hs.seen;omega)
 have la:=bA Pr.av s.pairs
 by_cases a1:0≤s.mark
 ·have b1:decide (0≤s.mark)=true:=decide_eq_true a1
  by_cases a2:s.mark≤s.last
  ·have b2:decide (s.mark≤s.last)=true:=decide_eq_true a2
   by_cases a3:s.last≤1000000000
   ·have b3:decide (s.last≤1000000000)=true:=decide_eq_true a3
    by_cases a4:s.pairs.length≤200
    ·have b4:decide ((200:Int) < (s.pairs.length:Int))=false:=decide_eq_false (by omega)
     by_cases a5:bT s.pairs
     ·rw[decide_eq_true a5] at kn
      have hall:=mI a5 (by omega)
      have k1:=k8 (gL s.pairs) (by rw[hall];omega) (by rw[hall];exact hs.vals)
      have k2:=PV (gL s.pairs) (by rw[hall];omega) (by rw[hall];exact hs.vals)
      rw[hall] at k1 k2
      have e:cJ s=(((dZ s.pairs&&decide (eX s.pairs≤s.last))&&lU s.pins)&&mN s.seen):=by simp[cJ,a1,a2,a3,a4,a5]
      rw[e]
      clear hall e
      generalize gL s.pairs=T at*
      generalize eX s.pairs=m at*
      unfold Sg.av Sg.cells at*
      unfold Tr.av at kt k1 k2
      cases h1:dZ s.pairs
      ·rw[h1] at k1
       repeat' (first|refine zB rfl (by first|exact b1|exact b2|exact b3|exact b4) ?_|refine zI rfl la ?_|refine zA rfl ?_|refine aA ?_|refine aL rfl ?_|refine aH rfl kn ?_|refine aH rfl kt ?_|refine aH rfl k1 ?_|refine aW mixed [0,1,2,3,4,5,6,7,8,9,10,11,12,13,14,15,16,17,18,19] [.P,.P,.P,.P,.P,.R,.R,.P,.P,.P,.R,.R,.P,.P,.P,.R,.R,.P,.P,.P] rfl rfl (by kernel_rfl) ?_)
       exact⟨rfl,_,rfl,_,rfl,aI.of_closed aK⟩
      ·rw[h1] at k1
       cases h2:decide (m≤s.last)
       ·repeat' (first|refine zB rfl (by first|exact b1|exact b2|exact b3|exact b4|exact h2) ?_|refine zI rfl la ?_|refine zA rfl ?_|refine aA ?_|refine aL rfl ?_|refine aH rfl kn ?_|refine aH rfl kt ?_|refine aH rfl k1 ?_|refine aH rfl k2 ?_|refine aW mixed [0,1,2,3,4,5,6,7,8,9,10,11,12,13,14,15,16,17,18,19] [.P,.P,.P,.P,.P,.R,.R,.P,.P,.P,.R,.R,.P,.P,.P,.R,.R,.P,.P,.P] rfl rfl (by kernel_rfl) ?_)
        exact⟨rfl,_,rfl,_,rfl,aI.of_closed aK⟩
       ·cases h3:lU s.pins
        ·rw[h3] at kp
         repeat' (first|refine zB rfl (by first|exact b1|exact b2|exact b3|exact b4|exact h2) ?_|refine zI rfl la ?_|refine zA rfl ?_|refine aA ?_|refine aL rfl ?_|refine aH rfl kn ?_|refine aH rfl kt ?_|refine aH rfl k1 ?_|refine aH rfl k2 ?_|refine aH rfl kp ?_|refine aW mixed [0,1,2,3,4,5,6,7,8,9,10,11,12,13,14,15,16,17,18,19] [.P,.P,.P,.P,.P,.R,.R,.P,.P,.P,.R,.R,.P,.P,.P,.R,.R,.P,.P,.P] rfl rfl (by kernel_rfl) ?_)
         exact⟨rfl,_,rfl,_,rfl,aI.of_closed aK⟩
        ·rw[h3] at kp
         cases h4:mN s.seen
         ·rw[h4] at kq
          repeat' (first|refine zB rfl (by first|exact b1|exact b2|exact b3|exact b4|exact h2) ?_|refine zI rfl la ?_|refine zA rfl ?_|refine aA ?_|refine aL rfl ?_|refine aH rfl kn ?_|refine aH rfl kt ?_|refine aH rfl k1 ?_|refine aH rfl k2 ?_|refine aH rfl kp ?_|refine aH rfl kq ?_|refine aW mixed [0,1,2,3,4,5,6,7,8,9,10,11,12,13,14,15,16,17,18,19] [.P,.P,.P,.P,.P,.R,.R,.P,.P,.P,.R,.R,.P,.P,.P,.R,.R,.P,.P,.P] rfl rfl (by kernel_rfl) ?_)
          exact⟨rfl,_,rfl,_,rfl,aI.of_closed aK⟩
         ·rw[h4] at kq
          repeat' (first|refine zB rfl (by first|exact b1|exact b2|exact b3|exact b4|exact h2) ?_|refine zI rfl la ?_|refine zA rfl ?_|refine aA ?_|refine aL rfl ?_|refine aH rfl kn ?_|refine aH rfl kt ?_|refine aH rfl k1 ?_|refine aH rfl k2 ?_|refine aH rfl kp ?_|refine aH rfl kq ?_|refine aW mixed [0,1,2,3,4,5,6,7,8,9,10,11,12,13,14,15,16,17,18,19] [.P,.P,.P,.P,.P,.R,.R,.P,.P,.P,.R,.R,.P,.P,.P,.R,.R,.P,.P,.P] rfl rfl (by kernel_rfl) ?_)
          exact⟨rfl,_,rfl,_,rfl,aI.of_closed aK⟩
     ·rw[decide_eq_false a5] at kn
      rw[show cJ s=false by simp[cJ,a5]]
      unfold Sg.av Sg.cells
      repeat' (first|refine zB rfl (by first|exact b1|exact b2|exact b3|exact b4) ?_|refine zI rfl la ?_|refine zA rfl ?_|refine aA ?_|refine aL rfl ?_|refine aH rfl kn ?_)
      exact⟨rfl,_,rfl,_,rfl,aI.of_closed aK⟩
    ·have b4:decide ((200:Int) < (s.pairs.length:Int))=true:=decide_eq_true (by omega)
     rw[show cJ s=false by simp[cJ,a4]]
     unfold Sg.av Sg.cells
     repeat' (first|refine zB rfl (by first|exact b1|exact b2|exact b3|exact b4) ?_|refine zI rfl la ?_|refine zA rfl ?_|refine aA ?_|refine aL rfl ?_)
     exact⟨rfl,_,rfl,_,rfl,aI.of_closed aK⟩
   ·have b3:decide (s.last≤1000000000)=false:=decide_eq_false a3
    rw[show cJ s=false by simp[cJ,a3]]
    unfold Sg.av Sg.cells
    repeat' (first|refine zB rfl (by first|exact b1|exact b2|exact b3) ?_|refine zA rfl ?_|refine aA ?_|refine aL rfl ?_)
    exact⟨rfl,_,rfl,_,rfl,aI.of_closed aK⟩
  ·have b2:decide (s.mark≤s.last)=false:=decide_eq_false a2
   rw[show cJ s=false by simp[cJ,a2]]
   unfold Sg.av Sg.cells
   repeat' (first|refine zB rfl (by first|exact b1|exact b2) ?_|refine zA rfl ?_|refine aA ?_|refine aL rfl ?_)
   exact⟨rfl,_,rfl,_,rfl,aI.of_closed aK⟩
 ·have b1:decide (0≤s.mark)=false:=decide_eq_false a1
  rw[show cJ s=false by simp[cJ,a1]]
  unfold Sg.av Sg.cells
  repeat' (first|refine zB rfl b1 ?_|refine zA rfl ?_|refine aA ?_|refine aL rfl ?_)
  exact⟨rfl,_,rfl,_,rfl,aI.of_closed aK⟩
structure aBa (s:Sg):Prop where
 pairs:s.pairs.length≤80
 vals:∀p,p∈s.pairs→p.key.path.length≤200∧p.val.length≤300
 pins:s.pins.length≤80
 seen:s.seen.length≤80
structure TQ (s:Sg):Prop where
 pairs:s.pairs.length < 1000000
 pins:s.pins.length < 1000000
 seen:s.seen.length < 1000000
theorem oT.len {s:Sg} (h:oT s):TQ s:=⟨by have:=h.pairs;omega,by have:=h.pins;omega,by have:=h.seen;omega⟩
theorem dX.len {s:Sg} (h:dX s):TQ s:=⟨by have:=h.many;omega,by have:=h.pinsN;omega,by have:=h.seenN;omega⟩
noncomputable def NV (s:Sg) (t:Tr):Sg:=⟨s.last,s.mark,t.all,s.pins,s.seen⟩
theorem XL (s:Sg) (t:Tr) (hs:t.all.length < 10000000):aO Tryz.prog 169 [s.av,t.av] (NV s t).av:=by
 refine aU (aV (dK s) (bG t)) (dK _) ?_
 refine aC aF Tryz.func169 rfl (by decide) (by simp[Tryz.f169]) ?_
 have ka:=sE t hs
 have hc:=dK (NV s t)
 unfold NV Sg.av Sg.cells at*
 unfold Tr.av at ka ⊢
 generalize t.all=A at*
 repeat' (first|refine iT 2 aF rfl ?_|refine zA rfl ?_|refine aA ?_|refine aL rfl ?_|refine aH rfl ka ?_)
 exact⟨rfl,_,rfl,_,rfl,aI.of_closed hc⟩
def fD (s:Int) (p:Pn):Bool:=decide (p.session=s)
def T7 (l:List Pn) (s:Int):Int:=((l.find? (fD s)).map Pn.at_).getD 0
theorem JW {α:Type} {p:α→Bool}:∀{l:List α} {i:Nat} {x:α},(∀(j:Nat) y,j < i→l[j]? =some y→p y=false)→l[i]? =some x→p x=true→l.find? p=some x
 |[],i,x,_,h,_=>by simp at h
 |a::r,0,x,_,h,hp=>by
  cases h
  simp[List.find?,hp]
 |a::r,i+1,x,hn,h,hp=>by
  have h0:=hn 0 a (Nat.zero_lt_succ _) rfl
  rw[List.find?_cons_of_neg (by simp[h0])]
  exact JW (i:=i) (fun j y hj hy=>hn (j+1) y (Nat.succ_lt_succ hj) (by simpa using hy)) (by simpa using h) hp
theorem oY {α:Type} (l:List α) (p:α→Bool):(l.any p=false∧r7 l p=-1∧l.find? p=none)∨∃(i:Nat) (x:α),l[i]? =some x∧p x=true∧(∀(j:Nat) y,j < i→l[j]? =some y→p y=false)∧r7 l p=(i:Int)∧l.find? p=some x∧l.any p=true:=by
 cases h:l.any p
 ·rw[List.any_eq_false] at h
  refine .inl ⟨rfl,lQ fun j x hx=>by simpa using h x (List.mem_of_getElem? hx),?_⟩
  rw[List.find?_eq_none]
  intro x hx
  simpa using h x hx
 ·rw[List.any_eq_true] at h
  obtain⟨x,hx,hp⟩:=h
  have h1:l.findIdx p < l.length:=List.findIdx_lt_length_of_exists ⟨x,hx,hp⟩
  have h2:l[l.findIdx p]? =some l[l.findIdx p]:=List.getElem?_eq_getElem h1
  have h3:p l[l.findIdx p]=true:=List.findIdx_getElem (w:=h1)
  have h4:∀(j:Nat) y,j < l.findIdx p→l[j]? =some y→p y=false:=fun j y hj hy=>by
   obtain⟨q1,rfl⟩:=List.getElem?_eq_some_iff.1 hy
   have:=List.not_of_lt_findIdx hj
   simpa using this
  exact .inr ⟨_,_,h2,h3,h4,rO h4 h2 h3,JW h4 h2 h3,rfl⟩
theorem a7q (s:Int) (p:Pn):aO Tryz.prog 323 [.int .i64 s,p.av] (.bool (fD s p)):=by
 intro M
 refine aC aF Tryz.func323 rfl (by decide) (by simp[Tryz.f323]) ?_
 unfold fD
 repeat' (first|refine zA rfl ?_|refine aA ?_|refine aL rfl ?_)
 exact⟨rfl,_,rfl,rfl,rfl⟩
theorem MZ (l:List Pn) (tg:eE) (hl:l.length < 1000000) (g:FuncId) (fi ca:List AV) (p:Pn→Bool) (hp:∀x,x∈l→aO Tryz.prog g (fi++[x.av]++ca) (.bool (p x))):aO Tryz.prog 324 [.sl 2 (l.map Pn.av) tg,.fn (.func g) fi ca] (.int .i64 (r7 l p)):=by
 intro M
 refine aC aF Tryz.func324 rfl (by decide) (by simp[Tryz.f324]) ?_
 have la:=bA Pn.av l
 repeat' (first|refine zI rfl la ?_|refine zA rfl ?_|refine aA ?_|refine aL rfl ?_)
 refine bC l.length (fun i f N=>N=M∧(∀(j:Nat) y,j < i→l[j]? =some y→p y=false)∧f=⟨[(0,.sl 2 (l.map Pn.av) tg),(1,.fn (.func g) fi ca),(7,.int .i64 (l.length:Int)),(8,.int .i64 (i:Int))],[]⟩) (Nat.zero_le _) ⟨rfl,fun j y hj=>absurd hj (Nat.not_lt_zero _),rfl⟩ (aR.le ?_ (aG.le_refl _)) ?_
 ·skip
  repeat (refine AF.le_cons rfl ?_)
  exact AF.le_nil rfl
 rintro i f N hi ⟨rfl,hno,rfl⟩
 by_cases h1:i < l.length
 ·have d1:decide ((i:Int) < (l.length:Int))=true:=decide_eq_true (by omega)
  have hx:l[i]? =some l[i]:=List.getElem?_eq_getElem h1
  have fi:=aZ (i:=i) (by omega)
  have hk:=hp l[i] (List.getElem_mem h1)
  generalize l[i]=x at hx hk
  cases hpx:p x
  ·rw[hpx] at hk
   repeat' (first|refine zB rfl d1 ?_|refine zA rfl ?_|refine aA ?_|refine aL rfl ?_)
   refine zX rfl (fB hx) ?_
   repeat' (first|refine zI rfl fi ?_|refine zA rfl ?_|refine aA ?_|refine aL rfl ?_|refine aH rfl hk ?_)
   refine⟨h1,_,_,⟨rfl,?_,rfl⟩,aR.le ?_ (aG.le_refl _)⟩
   ·intro j y hj hy
    by_cases hji:j=i
    ·subst hji
     rw[hx] at hy
     cases hy
     exact hpx
    ·exact hno j y (by omega) hy
   ·skip
    repeat (refine AF.le_cons rfl ?_)
    exact AF.le_nil rfl
  ·rw[hpx] at hk
   repeat' (first|refine zB rfl d1 ?_|refine zA rfl ?_|refine aA ?_|refine aL rfl ?_)
   refine zX rfl (fB hx) ?_
   repeat' (first|refine zA rfl ?_|refine aA ?_|refine aL rfl ?_|refine aH rfl hk ?_)
   exact⟨rfl,_,rfl,by rw[rO hno hx hpx];rfl,rfl⟩
 ·have d1:decide ((i:Int) < (l.length:Int))=false:=decide_eq_false (by omega)
  obtain rfl:i=l.length:=by omega
  repeat' (first|refine zB rfl d1 ?_|refine zA rfl ?_|refine aA ?_|refine aL rfl ?_)
  exact⟨rfl,_,rfl,by rw[lQ (fun j y hy=>hno j y (List.getElem?_eq_some_iff.1 hy).1 hy)];rfl,rfl⟩
theorem yZ (l:List Pn) (tg:eE) (hl:l.length < 1000000) (s:Int):aO Tryz.prog 306 [cD l tg,.int .i64 s] (.int .i64 (r7 l (fD s))):=by
 intro M
 refine aC aF Tryz.func306 rfl (by decide) (by simp[Tryz.f306]) ?_
 have k:=MZ l tg hl 323 [.int .i64 s] [] (fD s) (fun x _=>a7q s x)
 unfold cD
 repeat' (first|refine zA rfl ?_|refine aA ?_|refine aL rfl ?_|refine aH rfl k ?_)
 exact⟨rfl,_,rfl,rfl,rfl⟩
def pfA (l:List Pn) (s:Int):AV:=.tup [.int .i64 (T7 l s),.bool (l.any (fD s))]
theorem a5j (l:List Pn) (tg:eE) (hl:l.length < 1000000) (s:Int):aO Tryz.prog 274 [cD l tg,.int .i64 s] (pfA l s):=by
 intro M
 refine aC aF Tryz.func274 rfl (by decide) (by simp[Tryz.f274]) ?_
 have k:=yZ l tg hl s
 unfold pfA T7
 unfold cD at*
 rcases oY l (fD s) with ⟨e1,e2,e3⟩|⟨i,x,hx,_,_,e2,e3,e1⟩
 ·rw[e2] at k
  rw[e1,e3]
  have d1:decide ((-1:Int) < 0)=true:=rfl
  repeat' (first|refine zB rfl d1 ?_|refine zA rfl ?_|refine aA ?_|refine aL rfl ?_|refine aH rfl k ?_)
  exact⟨rfl,_,rfl,rfl,rfl⟩
 ·rw[e2] at k
  rw[e1,e3]
  have d1:decide ((i:Int) < 0)=false:=decide_eq_false (by omega)
  repeat' (first|refine zB rfl d1 ?_|refine zA rfl ?_|refine aA ?_|refine aL rfl ?_|refine aH rfl k ?_|refine zX rfl (fB hx) ?_)
  exact⟨rfl,_,rfl,rfl,rfl⟩
def mn (a b:Int):Int:=if b < a then b else a
def mx (a b:Int):Int:=if a < b then b else a
theorem MR (a b:Int):mn a b=min a b:=by unfold mn;split<;>omega
theorem a5r (a b:Int):mx a b=max a b:=by unfold mx;split<;>omega
def gC (a:Int) (l:List Pn):Int:=l.foldl (fun a p=>mn a p.at_) a
theorem EE {a:Int} {l:List Pn} {i:Nat} {x:Pn} (h:l[i]? =some x):gC a (l.take (i+1))=mn (gC a (l.take i)) x.at_:=by
 unfold gC
 rw[bM h,List.foldl_append]
 rfl
def fU (w b last:Int) (l:List Pn):Int:=mx w (gC (mn b last) l)
theorem ZA (l:List Pn) (tg:eE) (htg:tg=.none∨tg=.full) (hl:l.length < 1000000):aO Tryz.prog 312 [cD l tg] (iA (l.map Pn.at_) .none):=by
 refine aU (aX (cV l htg)) (gU _ (.inl rfl)) ?_
 refine aC aF Tryz.func312 rfl (by decide) (by simp[Tryz.f312]) ?_
 have la:=bA Pn.av l
 have hcp:=cV l htg
 have hc:=gU (l.map Pn.at_) (t:=.none) (.inl rfl)
 unfold cD at*
 repeat' (first|refine zI rfl la ?_|refine zA rfl ?_|refine aA ?_|refine aL rfl ?_)
 refine bC l.length (fun i f N=>∃g,N=tokM g∧f=⟨[(3,iA ((l.take i).map Pn.at_) (.tok 0 g)),(6,.sl 2 (l.map Pn.av) tg),(7,.int .i64 (l.length:Int)),(8,.int .i64 (i:Int))],[]⟩) (Nat.zero_le _) ⟨0,rfl,rfl⟩ ((aR.tok 3 rfl (sz':=1) (.inr rfl)).trans (aR.le ?_ (fF rfl rfl))) ?_
 ·unfold iA
  repeat (refine AF.le_cons rfl ?_)
  exact AF.le_nil rfl
 rintro i f N hi ⟨g,rfl,rfl⟩
 unfold iA
 have lt:=bA (fun n=>AV.int .i64 n) ((l.take i).map Pn.at_)
 have lt2:((l.take i).map Pn.at_).length≤i:=by rw[List.length_map,List.length_take];omega
 by_cases g1:i < l.length
 ·have d1:decide ((i:Int) < (l.length:Int))=true:=decide_eq_true (by omega)
  have hx:l[i]? =some l[i]:=List.getElem?_eq_getElem g1
  have fi:=aZ (i:=i) (by omega)
  have ht:=bM hx
  generalize l[i]=x at hx ht
  repeat' (first|refine zB rfl d1 ?_|refine zI rfl fi ?_|refine zA rfl ?_|refine aA ?_|refine aL rfl ?_|refine zX rfl (fB hx) ?_|refine zR rfl ?_|refine zP rfl rfl ?_)
  refine⟨g1,⟨[(3,iA ((l.take (i+1)).map Pn.at_) (.tok 0 (g+1))),(6,.sl 2 (l.map Pn.av) tg),(7,.int .i64 (l.length:Int)),(8,.int .i64 ((i+1:Nat):Int))],[]⟩,tokM (g+1),⟨g+1,rfl,rfl⟩,aR.cut (k:=1) (l:=(tokM (g+1)).objs) (Nat.zero_le 1) (by show 1≤2;omega) rfl ⟨?_,?_,?_,?_,trivial⟩ ⟨by decide,rfl,trivial⟩⟩
  ·rw[ht]
   unfold iA
   rw[List.map_append,List.map_append]
   refine aI.tok (by decide) ?_
   intro y hy c hc
   have:∃n,y=.int .i64 n:=by
    rcases List.mem_append.1 hy with hy|hy
    ·obtain⟨n,_,rfl⟩:=List.mem_map.1 hy
     exact⟨n,rfl⟩
    ·simp at hy
     exact⟨_,hy⟩
   obtain⟨n,rfl⟩:=this
   exact aX aB c hc
  ·exact aI.of_closed hcp
  ·exact aI.of_closed aB
  ·exact aI.of_closed aB
 ·have d1:decide ((i:Int) < (l.length:Int))=false:=decide_eq_false (by omega)
  obtain rfl:i=l.length:=by omega
  rw[List.take_length]
  unfold iA at hc
  repeat' (first|refine zB rfl d1 ?_|refine zA rfl ?_|refine aA ?_|refine aL rfl ?_)
  exact⟨rfl,_,rfl,_,rfl,aI.untag hc⟩
theorem ZL (a:Int) (l:List Pn) (hl:l.length < 1000000):aO Tryz.prog 311 [.int .i64 a,iA (l.map Pn.at_) .none] (.int .i64 (gC a l)):=by
 intro M
 refine aC aF Tryz.func311 rfl (by decide) (by simp[Tryz.f311]) ?_
 have la:(((l.map Pn.at_).map fun n=>AV.int .i64 n).length:Int)=(l.length:Int):=by simp
 unfold iA
 repeat' (first|refine zI rfl la ?_|refine zA rfl ?_|refine aA ?_|refine aL rfl ?_)
 refine bC l.length (fun i f N=>N=M∧(True)∧f=⟨[(0,.int .i64 (gC a (l.take i))),(7,.sl 1 ((l.map Pn.at_).map fun n=>AV.int .i64 n) .none),(8,.int .i64 (l.length:Int)),(9,.int .i64 (i:Int))],[]⟩) (Nat.zero_le _) ⟨rfl,trivial,rfl⟩ (aR.le ?_ (aG.le_refl _)) ?_
 ·skip
  repeat (refine AF.le_cons rfl ?_)
  exact AF.le_nil rfl
 rintro i f N hi ⟨rfl,hinv,rfl⟩
 by_cases h1:i < l.length
 ·have d1:decide ((i:Int) < (l.length:Int))=true:=by simp;omega
  have hx:l[i]? =some l[i]:=List.getElem?_eq_getElem h1
  have fi:=aZ (i:=i) (by omega)
  have ht:=bM hx
  have hm:=List.getElem_mem h1
  generalize l[i]=x at hx ht hm
  have hx2:(l.map Pn.at_)[i]? =some x.at_:=by rw[List.getElem?_map,hx];rfl
  have hmin:(if x.at_ < gC a (l.take i) then x.at_ else gC a (l.take i))=gC a (l.take (i+1)):=by rw[EE hx];rfl
  repeat' (first|refine zB rfl d1 ?_|refine zI rfl (by first|exact fi|exact hmin) ?_|refine zA rfl ?_|refine aA ?_|refine aL rfl ?_|refine zX rfl (fB hx2) ?_)
  refine⟨h1,_,_,⟨rfl,trivial,rfl⟩,aR.le ?_ (aG.le_refl _)⟩
  repeat (refine AF.le_cons rfl ?_)
  exact AF.le_nil rfl
 ·have d1:decide ((i:Int) < (l.length:Int))=false:=by simp;omega
  obtain rfl:i=l.length:=by omega
  rw[List.take_length]
  repeat' (first|refine zB rfl d1 ?_|refine zA rfl ?_|refine aA ?_|refine aL rfl ?_)
  exact⟨rfl,_,rfl,rfl,rfl⟩
theorem WJ (w b last:Int) (l:List Pn) (tg:eE) (htg:tg=.none∨tg=.full) (hl:l.length < 1000000):aO Tryz.prog 276 [.int .i64 w,.int .i64 b,.int .i64 last,cD l tg] (.int .i64 (fU w b last l)):=by
 intro M
 refine aC aF Tryz.func276 rfl (by decide) (by simp[Tryz.f276]) ?_
 have k1:=ZA l tg htg hl
 have k2:=ZL (mn b last) l hl
 have h1:(if last < b then last else b)=mn b last:=rfl
 have h2:(if w < gC (mn b last) l then gC (mn b last) l else w)=fU w b last l:=rfl
 unfold iA cD at*
 repeat' (first|refine zI rfl (by first|exact h1|exact h2) ?_|refine zA rfl ?_|refine aA ?_|refine aL rfl ?_|refine aH rfl k1 ?_|refine aH rfl k2 ?_)
 exact⟨rfl,_,rfl,rfl,rfl⟩
end Go.Proofs.YteliblifgdofgaaGreatDoor
namespace Go.Ab
open Go.RowKit
section
variable {P:Program} {τ:Tab} {ops:Array Oper} {cls:Nat→fQ} {Q:AX→AF→aG→Prop} {ds:List bJ} {ls:List Nat} {i:Nat} {o:Oper} {t:List (Nat×AV)} {M:aG}
theorem a4i (hτ:TabOK P τ) {d:Nat} (hi:ops[i]? =some o) (hw:aT ops ⟨t,ds⟩ o=some true) (hd:o.dst=some d) (hc:pG (cls i)=true) {ty e:TypeId} {X I:Operand} (ho:o.op=.indexAddr ty X I) {id off n cap sz:Nat} {l:List AV} {k:IntKind} {j:Int}
  (hX:AF.ev ⟨t,ds⟩ X=.osl id off n cap sz) (hI:AF.ev ⟨t,ds⟩ I=.int k j) {ti ei:TI} (ht:aJ τ ty=some ti) (hk:ti.k=.slice e) (he:aJ τ e=some ei) (hsz:sz=ei.size) (hM:M.get id=some (.cells l)) (h0:0≤j) (hj:j < n)
  (h:DW P ops cls Q ds ls ((d,.ptr id (off+j.toNat*sz))::t) M):DW P ops cls Q ds (i::ls) t M:=
 jY hi hw hd hc (by rw[ho];exact zW hτ ht hk he hX hM hI h0 hj hsz) h
end
end Go.Ab
