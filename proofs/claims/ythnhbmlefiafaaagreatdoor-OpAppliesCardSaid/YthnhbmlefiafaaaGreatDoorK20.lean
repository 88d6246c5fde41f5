/- Parts of the proof, one behind the other. No further condition. -/
import Derived.Test.YthnhbmlefiafaaaGreatDoorK19
set_option linter.unusedVariables false
set_option linter.unusedSimpArgs false
set_option maxRecDepth 100000
set_option maxHeartbeats 8000000
namespace Go.Proofs.YthnhbmlefiafaaaGreatDoor
open Go.Ab
def bI (l:List Pn) (t:eI):AV:=.sl 2 (l.map Pn.av) t
def bU (l:List Sn) (t:eI):AV:=.sl 4 (l.map Sn.av) t
theorem nR (p:Pn):∀c,c∈p.av.cells→aP c:=aZ aB aB
theorem rF (p:Sn):∀c,c∈p.av.cells→aP c:=eK aB (cD aB aB aB)
theorem uL (p:Pn):aP p.av:=cP (nR p)
theorem kJ (p:Sn):aP p.av:=cP (rF p)
theorem bP (l:List Pn) {t:eI} (h:t=.none∨t=.full):aP (bI l t):=c8 h (fun x hx=>by obtain⟨p,_,rfl⟩:=List.mem_map.1 hx;exact uL p) (fun x hx=>by obtain⟨p,_,rfl⟩:=List.mem_map.1 hx;exact nR p)
theorem bQ (l:List Sn) {t:eI} (h:t=.none∨t=.full):aP (bU l t):=c8 h (fun x hx=>by obtain⟨p,_,rfl⟩:=List.mem_map.1 hx;exact kJ p) (fun x hx=>by obtain⟨p,_,rfl⟩:=List.mem_map.1 hx;exact rF p)
theorem nO {α:Type} {q:α→Bool} {k:α→Int} {p:Option Int} {x:α} {r:List α} (h:q x=false):gW q k p (x::r)=false:=by
 cases p<;>simp[gW,h]
theorem xL {α:Type} {q:α→Bool} {k:α→Int} {n:Int} {x:α} {r:List α} (h:¬n < k x):gW q k (some n) (x::r)=false:=by
 simp[gW,h]
theorem xO {α:Type} {q:α→Bool} {k:α→Int} {x:α} {r:List α} (h:q x=true):gW q k none (x::r)=gW q k (some (k x)) r:=by
 simp[gW,h]
theorem xQ {α:Type} {q:α→Bool} {k:α→Int} {n:Int} {x:α} {r:List α} (h:q x=true) (h2:n < k x):gW q k (some n) (x::r)=gW q k (some (k x)) r:=by
 simp[gW,h,h2]
theorem nV {α:Type} {k:α→Int} {l:List α} {i:Nat} {x:α} (h:l[i]? =some x):pv k l (i+1)=some (k x):=by
 show l[i]?.map k=some (k x)
 rw[h]
 rfl
theorem IY {α:Type} {l:List α} {i:Nat} {x:α} (h:l[i]? =some x):l.drop i=x::l.drop (i+1):=by
 obtain⟨h1,rfl⟩:=List.getElem?_eq_some_iff.1 h
 exact List.drop_eq_getElem_cons h1
theorem a2y (n:Nat):decide ((n:Int)≤50)=decide (n≤50):=decide_eq_decide.2 (by omega)
theorem Z9 (p q:Pn):(!((decide (p.session=q.session))&&((decide (p.at_=q.at_))&&true)))=!decide (p=q):=by
 obtain⟨a,b⟩:=p
 obtain⟨d,e⟩:=q
 congr 1
 rw[Bool.eq_iff_iff]
 simp
theorem XW (p q:Sn):(!((decide (p.client=q.client))&&((decide (p.seq=q.seq))&&(((decide (p.code=q.code))&&((decide (p.n=q.n))&&true))&&true))))=!decide (p=q):=by
 obtain⟨a,b,c,d⟩:=p
 obtain⟨e,f,g,h⟩:=q
 congr 1
 rw[Bool.eq_iff_iff]
 simp
def Y0 (n a b:Int):Bool:=decide (a≤n)&&decide (n≤b)
theorem W6 (p:Sn):fB p=(((Y0 p.client 0 1000000&&Y0 p.seq 1 1000000000)&&Y0 p.code 0 1000)&&Y0 p.n 0 1000000000):=by
 simp[fB,Y0,Bool.and_assoc]
theorem OT (p:Pn):aN Tryz.prog 119 [p.av] (.bool (dP p)):=by
 intro M
 refine aC aF Tryz.func119 rfl (by decide) (by simp[Tryz.f119]) ?_
 unfold dP Pn.av
 cases h1:decide (0≤p.session)
 ·repeat' (first|refine zB rfl h1 ?_|refine zA rfl ?_|refine aA ?_|refine aJ rfl ?_)
  exact⟨rfl,_,rfl,rfl,rfl⟩
 ·skip
  cases h2:decide (p.session≤1000000)
  ·repeat' (first|refine zB rfl (by first|exact h1|exact h2) ?_|refine zA rfl ?_|refine aA ?_|refine aJ rfl ?_)
   exact⟨rfl,_,rfl,rfl,rfl⟩
  ·skip
   cases h3:decide (0≤p.at_)
   ·repeat' (first|refine zB rfl (by first|exact h1|exact h2|exact h3) ?_|refine zA rfl ?_|refine aA ?_|refine aJ rfl ?_)
    exact⟨rfl,_,rfl,rfl,rfl⟩
   ·skip
    cases h4:decide (p.at_≤1000000000)
    ·repeat' (first|refine zB rfl (by first|exact h1|exact h2|exact h3|exact h4) ?_|refine zA rfl ?_|refine aA ?_|refine aJ rfl ?_)
     exact⟨rfl,_,rfl,rfl,rfl⟩
    ·repeat' (first|refine zB rfl (by first|exact h1|exact h2|exact h3|exact h4) ?_|refine zA rfl ?_|refine aA ?_|refine aJ rfl ?_)
     exact⟨rfl,_,rfl,rfl,rfl⟩
theorem EI (n a b:Int):aN Tryz.prog 148 [.int .i64 n,.int .i64 a,.int .i64 b] (.bool (Y0 n a b)):=by
 intro M
 refine aC aF Tryz.func148 rfl (by decide) (by simp[Tryz.f148]) ?_
 unfold Y0
 cases h1:decide (a≤n)
 ·repeat' (first|refine zB rfl h1 ?_|refine zA rfl ?_|refine aA ?_|refine aJ rfl ?_)
  exact⟨rfl,_,rfl,rfl,rfl⟩
 ·skip
  cases h2:decide (n≤b)
  ·repeat' (first|refine zB rfl (by first|exact h1|exact h2) ?_|refine zA rfl ?_|refine aA ?_|refine aJ rfl ?_)
   exact⟨rfl,_,rfl,rfl,rfl⟩
  ·repeat' (first|refine zB rfl (by first|exact h1|exact h2) ?_|refine zA rfl ?_|refine aA ?_|refine aJ rfl ?_)
   exact⟨rfl,_,rfl,rfl,rfl⟩
theorem OZ (p:Sn):aN Tryz.prog 94 [p.av] (.bool (fB p)):=by
 intro M
 refine aC aF Tryz.func94 rfl (by decide) (by simp[Tryz.f94]) ?_
 have k1:=EI p.client 0 1000000
 have k2:=EI p.seq 1 1000000000
 have k3:=EI p.code 0 1000
 have k4:=EI p.n 0 1000000000
 rw[W6]
 unfold Sn.av
 cases h1:Y0 p.client 0 1000000
 ·rw[h1] at k1
  repeat' (first|refine zA rfl ?_|refine aA ?_|refine aJ rfl ?_|refine aD rfl k1 ?_)
  exact⟨rfl,_,rfl,rfl,rfl⟩
 ·rw[h1] at k1
  cases h2:Y0 p.seq 1 1000000000
  ·rw[h2] at k2
   repeat' (first|refine zA rfl ?_|refine aA ?_|refine aJ rfl ?_|refine aD rfl k1 ?_|refine aD rfl k2 ?_)
   exact⟨rfl,_,rfl,rfl,rfl⟩
  ·rw[h2] at k2
   cases h3:Y0 p.code 0 1000
   ·rw[h3] at k3
    repeat' (first|refine zA rfl ?_|refine aA ?_|refine aJ rfl ?_|refine aD rfl k1 ?_|refine aD rfl k2 ?_|refine aD rfl k3 ?_)
    exact⟨rfl,_,rfl,rfl,rfl⟩
   ·rw[h3] at k3
    cases h4:Y0 p.n 0 1000000000
    ·rw[h4] at k4
     repeat' (first|refine zA rfl ?_|refine aA ?_|refine aJ rfl ?_|refine aD rfl k1 ?_|refine aD rfl k2 ?_|refine aD rfl k3 ?_|refine aD rfl k4 ?_)
     exact⟨rfl,_,rfl,rfl,rfl⟩
    ·rw[h4] at k4
     repeat' (first|refine zA rfl ?_|refine aA ?_|refine aJ rfl ?_|refine aD rfl k1 ?_|refine aD rfl k2 ?_|refine aD rfl k3 ?_|refine aD rfl k4 ?_)
     exact⟨rfl,_,rfl,rfl,rfl⟩
theorem II (p:Sn):aN Tryz.prog 113 [p.av] (.bool (fB p)):=by
 intro M
 refine aC aF Tryz.func113 rfl (by decide) (by simp[Tryz.f113]) ?_
 unfold fB Sn.av
 cases h1:decide (0≤p.client)
 ·repeat' (first|refine zB rfl h1 ?_|refine zA rfl ?_|refine aA ?_|refine aJ rfl ?_)
  exact⟨rfl,_,rfl,rfl,rfl⟩
 ·skip
  cases h2:decide (p.client≤1000000)
  ·repeat' (first|refine zB rfl (by first|exact h1|exact h2) ?_|refine zA rfl ?_|refine aA ?_|refine aJ rfl ?_)
   exact⟨rfl,_,rfl,rfl,rfl⟩
  ·skip
   cases h3:decide (1≤p.seq)
   ·repeat' (first|refine zB rfl (by first|exact h1|exact h2|exact h3) ?_|refine zA rfl ?_|refine aA ?_|refine aJ rfl ?_)
    exact⟨rfl,_,rfl,rfl,rfl⟩
   ·skip
    cases h4:decide (p.seq≤1000000000)
    ·repeat' (first|refine zB rfl (by first|exact h1|exact h2|exact h3|exact h4) ?_|refine zA rfl ?_|refine aA ?_|refine aJ rfl ?_)
     exact⟨rfl,_,rfl,rfl,rfl⟩
    ·skip
     cases h5:decide (0≤p.code)
     ·repeat' (first|refine zB rfl (by first|exact h1|exact h2|exact h3|exact h4|exact h5) ?_|refine zA rfl ?_|refine aA ?_|refine aJ rfl ?_)
      exact⟨rfl,_,rfl,rfl,rfl⟩
     ·skip
      cases h6:decide (p.code≤1000)
      ·repeat' (first|refine zB rfl (by first|exact h1|exact h2|exact h3|exact h4|exact h5|exact h6) ?_|refine zA rfl ?_|refine aA ?_|refine aJ rfl ?_)
       exact⟨rfl,_,rfl,rfl,rfl⟩
      ·skip
       cases h7:decide (0≤p.n)
       ·repeat' (first|refine zB rfl (by first|exact h1|exact h2|exact h3|exact h4|exact h5|exact h6|exact h7) ?_|refine zA rfl ?_|refine aA ?_|refine aJ rfl ?_)
        exact⟨rfl,_,rfl,rfl,rfl⟩
       ·skip
        cases h8:decide (p.n≤1000000000)
        ·repeat' (first|refine zB rfl (by first|exact h1|exact h2|exact h3|exact h4|exact h5|exact h6|exact h7|exact h8) ?_|refine zA rfl ?_|refine aA ?_|refine aJ rfl ?_)
         exact⟨rfl,_,rfl,rfl,rfl⟩
        ·repeat' (first|refine zB rfl (by first|exact h1|exact h2|exact h3|exact h4|exact h5|exact h6|exact h7|exact h8) ?_|refine zA rfl ?_|refine aA ?_|refine aJ rfl ?_)
         exact⟨rfl,_,rfl,rfl,rfl⟩
def uG (l:List Pn) (i:Nat):AF:=⟨[(0,bI l .none),(5,bI l .none),(6,.int .i64 (l.length:Int)),(7,.int .i64 (i:Int))],[]⟩
theorem zM (l:List Pn) (hl:l.length < 1000000):aN Tryz.prog 65 [bI l .none] (.bool (gW dP Pn.session none l&&decide (l.length≤50))):=by
 refine aT (aY (bP l (.inl rfl))) (aL) ?_
 refine aC aF Tryz.func65 rfl (by decide) (by simp[Tryz.f65]) ?_
 have la:=aU Pn.av l
 have hc:=bP l (t:=.none) (.inl rfl)
 have h50:=a2y l.length
 unfold bI at*
 repeat' (first|refine zI rfl la ?_|refine zA rfl ?_|refine aA ?_|refine aJ rfl ?_)
 refine aX l.length (fun i f N=>N=⟨0,[]⟩∧gW dP Pn.session none l=gW dP Pn.session (pv Pn.session l i) (l.drop i)∧f=uG l i) (Nat.zero_le _) ⟨rfl,rfl,rfl⟩ (aM.le ?_ (aI.le_nil rfl)) ?_
 ·unfold uG bI
  repeat (refine AF.le_cons rfl ?_)
  exact AF.le_nil rfl
 rintro i f N hi ⟨rfl,hinv,rfl⟩
 unfold uG bI
 by_cases h1:i < l.length
 ·have d1:decide ((i:Int) < (l.length:Int))=true:=decide_eq_true (by omega)
  have hx:l[i]? =some l[i]:=List.getElem?_eq_getElem h1
  have fi:=aQ (i:=i) (by omega)
  generalize l[i]=x at hx
  rw[IY hx] at hinv
  have fin:∀{f:AF} {M:aI},gW dP Pn.session none l=gW dP Pn.session (pv Pn.session l (i+1)) (l.drop (i+1))→f.d=[]→aH 0 (f.get 0) (bI l .none)→aH 0 (f.get 5) (bI l .none)→aH 0 (f.get 6) (.int .i64 (l.length:Int))→aH 0 (f.get 7) (.int .i64 ((i+1:Nat):Int))→∃f'' N,(N=⟨0,[]⟩∧gW dP Pn.session none l=gW dP Pn.session (pv Pn.session l (i+1)) (l.drop (i+1))∧f''=uG l (i+1))∧aM 0 f M f'' N:=fun {f M} hq h0 q1 q2 q3 q4=>
   ⟨uG l (i+1),⟨0,[]⟩,⟨rfl,hq,rfl⟩,aM.cut (k:=0) (t:=(uG l (i+1)).t) (l:=[]) (Nat.le_refl _) (Nat.zero_le _) h0 ⟨q1,q2,q3,q4,trivial⟩ trivial⟩
  have km:=OT x
  unfold Pn.av at km
  cases hm:dP x
  ·rw[hm] at km
   rw[hinv,nO hm]
   repeat' (first|refine zB rfl d1 ?_|refine zA rfl ?_|refine aA ?_|refine aJ rfl ?_|refine aD rfl km ?_|refine zX rfl (c7 hx) ?_|refine aO mixed [0,1,2,3,4,5,6,7,8,9,10,11,12,13,14,15,16,17] [.R,.P,.P,.P,.P,.P,.P,.P,.P,.P,.R,.R,.R,.R,.R,.P,.P,.P] rfl rfl (by kernel_rfl) ?_)
   exact⟨rfl,_,rfl,_,rfl,aH.of_closed aL⟩
  ·rw[hm] at km
   by_cases h0:i=0
   ·subst h0
    have e:=hinv.trans (xO hm)
    rw[←nV hx] at e
    repeat' (first|refine zB rfl d1 ?_|refine zI rfl (by first|exact la|exact fi) ?_|refine zA rfl ?_|refine aA ?_|refine aJ rfl ?_|refine aD rfl km ?_|refine zX rfl (c7 hx) ?_|refine aO mixed [0,1,2,3,4,5,6,7,8,9,10,11,12,13,14,15,16,17] [.R,.P,.P,.P,.P,.P,.P,.P,.P,.P,.R,.R,.R,.R,.R,.P,.P,.P] rfl rfl (by kernel_rfl) ?_)
    refine⟨h1,fin e rfl ?_ ?_ ?_ ?_⟩
    ·exact aH.of_closed hc
    ·exact aH.of_closed hc
    ·exact aH.of_closed aB
    ·exact aH.of_closed aB
   ·obtain⟨k,rfl⟩:∃k,i=k+1:=⟨i - 1,by omega⟩
    have d4:decide ((0:Int) < ((k+1:Nat):Int))=true:=decide_eq_true (by omega)
    have w1:IntKind.wrap .i64 (((k+1:Nat):Int) - 1)=(k:Int):=(Go.Ab.wrap_small (by omega) (by omega)).trans (by omega)
    have hy:l[k]? =some l[k]:=List.getElem?_eq_getElem (by omega)
    generalize l[k]=y at hy
    rw[nV hy] at hinv
    by_cases h2:y.session < x.session
    ·have d5:decide (x.session≤y.session)=false:=decide_eq_false (by omega)
     have e:=hinv.trans (xQ hm h2)
     rw[←nV hx] at e
     repeat' (first|refine zB rfl (by first|exact d1|exact d4|exact d5) ?_|refine zI rfl (by first|exact la|exact fi|exact w1) ?_|refine zA rfl ?_|refine aA ?_|refine aJ rfl ?_|refine aD rfl km ?_|refine zX rfl (c7 hx) ?_|refine zX rfl (c7 hy) ?_|refine aO mixed [0,1,2,3,4,5,6,7,8,9,10,11,12,13,14,15,16,17] [.R,.P,.P,.P,.P,.P,.P,.P,.P,.P,.R,.R,.R,.R,.R,.P,.P,.P] rfl rfl (by kernel_rfl) ?_)
     refine⟨h1,fin e rfl ?_ ?_ ?_ ?_⟩
     ·exact aH.of_closed hc
     ·exact aH.of_closed hc
     ·exact aH.of_closed aB
     ·exact aH.of_closed aB
    ·have d5:decide (x.session≤y.session)=true:=decide_eq_true (by omega)
     rw[hinv,xL h2]
     repeat' (first|refine zB rfl (by first|exact d1|exact d4|exact d5) ?_|refine zI rfl (by first|exact la|exact w1) ?_|refine zA rfl ?_|refine aA ?_|refine aJ rfl ?_|refine aD rfl km ?_|refine zX rfl (c7 hx) ?_|refine zX rfl (c7 hy) ?_|refine aO mixed [0,1,2,3,4,5,6,7,8,9,10,11,12,13,14,15,16,17] [.R,.P,.P,.P,.P,.P,.P,.P,.P,.P,.R,.R,.R,.R,.R,.P,.P,.P] rfl rfl (by kernel_rfl) ?_)
     exact⟨rfl,_,rfl,_,rfl,aH.of_closed aL⟩
 ·have d1:decide ((i:Int) < (l.length:Int))=false:=decide_eq_false (by omega)
  obtain rfl:i=l.length:=by omega
  rw[List.drop_length] at hinv
  have e:gW dP Pn.session none l=true:=by
   rw[hinv]
   cases pv Pn.session l l.length<;>rfl
  rw[e,←h50]
  repeat' (first|refine zB rfl d1 ?_|refine zI rfl la ?_|refine zA rfl ?_|refine aA ?_|refine aJ rfl ?_)
  exact⟨rfl,_,rfl,_,rfl,aH.of_closed aL⟩
def pY (l:List Sn) (i:Nat):AF:=⟨[(0,bU l .none),(5,bU l .none),(6,.int .i64 (l.length:Int)),(7,.int .i64 (i:Int))],[]⟩
theorem C0 (l:List Sn) (hl:l.length < 1000000):aN Tryz.prog 66 [bU l .none] (.bool (gW fB Sn.client none l&&decide (l.length≤50))):=by
 refine aT (aY (bQ l (.inl rfl))) (aL) ?_
 refine aC aF Tryz.func66 rfl (by decide) (by simp[Tryz.f66]) ?_
 have la:=aU Sn.av l
 have hc:=bQ l (t:=.none) (.inl rfl)
 have h50:=a2y l.length
 unfold bU at*
 repeat' (first|refine zI rfl la ?_|refine zA rfl ?_|refine aA ?_|refine aJ rfl ?_)
 refine aX l.length (fun i f N=>N=⟨0,[]⟩∧gW fB Sn.client none l=gW fB Sn.client (pv Sn.client l i) (l.drop i)∧f=pY l i) (Nat.zero_le _) ⟨rfl,rfl,rfl⟩ (aM.le ?_ (aI.le_nil rfl)) ?_
 ·unfold pY bU
  repeat (refine AF.le_cons rfl ?_)
  exact AF.le_nil rfl
 rintro i f N hi ⟨rfl,hinv,rfl⟩
 unfold pY bU
 by_cases h1:i < l.length
 ·have d1:decide ((i:Int) < (l.length:Int))=true:=decide_eq_true (by omega)
  have hx:l[i]? =some l[i]:=List.getElem?_eq_getElem h1
  have fi:=aQ (i:=i) (by omega)
  generalize l[i]=x at hx
  rw[IY hx] at hinv
  have fin:∀{f:AF} {M:aI},gW fB Sn.client none l=gW fB Sn.client (pv Sn.client l (i+1)) (l.drop (i+1))→f.d=[]→aH 0 (f.get 0) (bU l .none)→aH 0 (f.get 5) (bU l .none)→aH 0 (f.get 6) (.int .i64 (l.length:Int))→aH 0 (f.get 7) (.int .i64 ((i+1:Nat):Int))→∃f'' N,(N=⟨0,[]⟩∧gW fB Sn.client none l=gW fB Sn.client (pv Sn.client l (i+1)) (l.drop (i+1))∧f''=pY l (i+1))∧aM 0 f M f'' N:=fun {f M} hq h0 q1 q2 q3 q4=>
   ⟨pY l (i+1),⟨0,[]⟩,⟨rfl,hq,rfl⟩,aM.cut (k:=0) (t:=(pY l (i+1)).t) (l:=[]) (Nat.le_refl _) (Nat.zero_le _) h0 ⟨q1,q2,q3,q4,trivial⟩ trivial⟩
  have km:=OZ x
  unfold Sn.av at km
  cases hm:fB x
  ·rw[hm] at km
   rw[hinv,nO hm]
   repeat' (first|refine zB rfl d1 ?_|refine zA rfl ?_|refine aA ?_|refine aJ rfl ?_|refine aD rfl km ?_|refine zX rfl (c7 hx) ?_|refine aO mixed [0,1,2,3,4,5,6,7,8,9,10,11,12,13,14,15,16,17] [.R,.P,.P,.P,.P,.P,.P,.P,.P,.P,.R,.R,.R,.R,.R,.P,.P,.P] rfl rfl (by kernel_rfl) ?_)
   exact⟨rfl,_,rfl,_,rfl,aH.of_closed aL⟩
  ·rw[hm] at km
   by_cases h0:i=0
   ·subst h0
    have e:=hinv.trans (xO hm)
    rw[←nV hx] at e
    repeat' (first|refine zB rfl d1 ?_|refine zI rfl (by first|exact la|exact fi) ?_|refine zA rfl ?_|refine aA ?_|refine aJ rfl ?_|refine aD rfl km ?_|refine zX rfl (c7 hx) ?_|refine aO mixed [0,1,2,3,4,5,6,7,8,9,10,11,12,13,14,15,16,17] [.R,.P,.P,.P,.P,.P,.P,.P,.P,.P,.R,.R,.R,.R,.R,.P,.P,.P] rfl rfl (by kernel_rfl) ?_)
    refine⟨h1,fin e rfl ?_ ?_ ?_ ?_⟩
    ·exact aH.of_closed hc
    ·exact aH.of_closed hc
    ·exact aH.of_closed aB
    ·exact aH.of_closed aB
   ·obtain⟨k,rfl⟩:∃k,i=k+1:=⟨i - 1,by omega⟩
    have d4:decide ((0:Int) < ((k+1:Nat):Int))=true:=decide_eq_true (by omega)
    have w1:IntKind.wrap .i64 (((k+1:Nat):Int) - 1)=(k:Int):=(Go.Ab.wrap_small (by omega) (by omega)).trans (by omega)
    have hy:l[k]? =some l[k]:=List.getElem?_eq_getElem (by omega)
    generalize l[k]=y at hy
    rw[nV hy] at hinv
    by_cases h2:y.client < x.client
    ·have d5:decide (x.client≤y.client)=false:=decide_eq_false (by omega)
     have e:=hinv.trans (xQ hm h2)
     rw[←nV hx] at e
     repeat' (first|refine zB rfl (by first|exact d1|exact d4|exact d5) ?_|refine zI rfl (by first|exact la|exact fi|exact w1) ?_|refine zA rfl ?_|refine aA ?_|refine aJ rfl ?_|refine aD rfl km ?_|refine zX rfl (c7 hx) ?_|refine zX rfl (c7 hy) ?_|refine aO mixed [0,1,2,3,4,5,6,7,8,9,10,11,12,13,14,15,16,17] [.R,.P,.P,.P,.P,.P,.P,.P,.P,.P,.R,.R,.R,.R,.R,.P,.P,.P] rfl rfl (by kernel_rfl) ?_)
     refine⟨h1,fin e rfl ?_ ?_ ?_ ?_⟩
     ·exact aH.of_closed hc
     ·exact aH.of_closed hc
     ·exact aH.of_closed aB
     ·exact aH.of_closed aB
    ·have d5:decide (x.client≤y.client)=true:=decide_eq_true (by omega)
     rw[hinv,xL h2]
     repeat' (first|refine zB rfl (by first|exact d1|exact d4|exact d5) ?_|refine zI rfl (by first|exact la|exact w1) ?_|refine zA rfl ?_|refine aA ?_|refine aJ rfl ?_|refine aD rfl km ?_|refine zX rfl (c7 hx) ?_|refine zX rfl (c7 hy) ?_|refine aO mixed [0,1,2,3,4,5,6,7,8,9,10,11,12,13,14,15,16,17] [.R,.P,.P,.P,.P,.P,.P,.P,.P,.P,.R,.R,.R,.R,.R,.P,.P,.P] rfl rfl (by kernel_rfl) ?_)
     exact⟨rfl,_,rfl,_,rfl,aH.of_closed aL⟩
 ·have d1:decide ((i:Int) < (l.length:Int))=false:=decide_eq_false (by omega)
  obtain rfl:i=l.length:=by omega
  rw[List.drop_length] at hinv
  have e:gW fB Sn.client none l=true:=by
   rw[hinv]
   cases pv Sn.client l l.length<;>rfl
  rw[e,←h50]
  repeat' (first|refine zB rfl d1 ?_|refine zI rfl la ?_|refine zA rfl ?_|refine aA ?_|refine aJ rfl ?_)
  exact⟨rfl,_,rfl,_,rfl,aH.of_closed aL⟩
theorem z8 (l:List Sn) (hl:l.length < 1000000):aN Tryz.prog 106 [bU l .none] (.bool (gW fB Sn.client none l&&decide (l.length≤50))):=by
 intro M
 refine aC aF Tryz.func106 rfl (by decide) (by simp[Tryz.f106]) ?_
 have la:=aU Sn.av l
 have h50:=a2y l.length
 unfold bU
 repeat' (first|refine zA rfl ?_|refine aA ?_|refine aJ rfl ?_)
 refine aX l.length (fun i f N=>N=M∧(gW fB Sn.client none l=gW fB Sn.client (pv Sn.client l i) (l.drop i))∧f=⟨[(0,.sl 4 (l.map Sn.av) .none),(3,.int .i64 (i:Int))],[]⟩) (Nat.zero_le _) ⟨rfl,rfl,rfl⟩ (aM.le ?_ (aI.le_refl _)) ?_
 ·skip
  repeat (refine AF.le_cons rfl ?_)
  exact AF.le_nil rfl
 rintro i f N hi ⟨rfl,hinv,rfl⟩
 by_cases h1:i < l.length
 ·have d1:decide ((i:Int) < (l.length:Int))=true:=by simp;omega
  have hx:l[i]? =some l[i]:=List.getElem?_eq_getElem h1
  have fi:=aQ (i:=i) (by omega)
  have ht:=b7 hx
  have hm:=List.getElem_mem h1
  generalize l[i]=x at hx ht hm
  rw[IY hx] at hinv
  have km:=II x
  unfold Sn.av at km
  cases hq:fB x
  ·rw[hq] at km
   rw[hinv,nO hq]
   repeat' (first|refine zB rfl d1 ?_|refine zI rfl la ?_|refine zA rfl ?_|refine aA ?_|refine aJ rfl ?_|refine aD rfl km ?_|refine zX rfl (c7 hx) ?_|refine aO mixed [0,1,2,3,4,5,6,7,8,9,10,11,12,16,17,13,14,15,18,19,20,21,22,23] [.P,.P,.R,.R,.P,.P,.P,.P,.P,.P,.P,.P,.P,.R,.R,.R,.P,.P,.R,.R,.R,.P,.P,.P] rfl rfl (by kernel_rfl) ?_)
   exact⟨rfl,_,rfl,rfl,rfl⟩
  ·rw[hq] at km
   by_cases h0:i=0
   ·subst h0
    have e:=hinv.trans (xO hq)
    rw[←nV hx] at e
    repeat' (first|refine zB rfl d1 ?_|refine zI rfl (by first|exact la|exact fi) ?_|refine zA rfl ?_|refine aA ?_|refine aJ rfl ?_|refine aD rfl km ?_|refine zX rfl (c7 hx) ?_|refine aO mixed [0,1,2,3,4,5,6,7,8,9,10,11,12,16,17,13,14,15,18,19,20,21,22,23] [.P,.P,.R,.R,.P,.P,.P,.P,.P,.P,.P,.P,.P,.R,.R,.R,.P,.P,.R,.R,.R,.P,.P,.P] rfl rfl (by kernel_rfl) ?_)
    refine⟨h1,_,_,⟨rfl,e,rfl⟩,aM.le ?_ (aI.le_refl _)⟩
    repeat (refine AF.le_cons rfl ?_)
    exact AF.le_nil rfl
   ·obtain⟨k,rfl⟩:∃k,i=k+1:=⟨i - 1,by omega⟩
    have d4:decide ((0:Int) < ((k+1:Nat):Int))=true:=decide_eq_true (by omega)
    have w1:IntKind.wrap .i64 (((k+1:Nat):Int) - 1)=(k:Int):=(Go.Ab.wrap_small (by omega) (by omega)).trans (by omega)
    have hy:l[k]? =some l[k]:=List.getElem?_eq_getElem (by omega)
    generalize l[k]=y at hy
    rw[nV hy] at hinv
    by_cases h2:y.client < x.client
    ·have d5:decide (x.client≤y.client)=false:=decide_eq_false (by omega)
     have e:=hinv.trans (xQ hq h2)
     rw[←nV hx] at e
     repeat' (first|refine zB rfl (by first|exact d1|exact d4|exact d5) ?_|refine zI rfl (by first|exact la|exact fi|exact w1) ?_|refine zA rfl ?_|refine aA ?_|refine aJ rfl ?_|refine aD rfl km ?_|refine zX rfl (c7 hx) ?_|refine zX rfl (c7 hy) ?_|refine aO mixed [0,1,2,3,4,5,6,7,8,9,10,11,12,16,17,13,14,15,18,19,20,21,22,23] [.P,.P,.R,.R,.P,.P,.P,.P,.P,.P,.P,.P,.P,.R,.R,.R,.P,.P,.R,.R,.R,.P,.P,.P] rfl rfl (by kernel_rfl) ?_)
     refine⟨h1,_,_,⟨rfl,e,rfl⟩,aM.le ?_ (aI.le_refl _)⟩
     repeat (refine AF.le_cons rfl ?_)
     exact AF.le_nil rfl
    ·have d5:decide (x.client≤y.client)=true:=decide_eq_true (by omega)
     rw[hinv,xL h2]
     repeat' (first|refine zB rfl (by first|exact d1|exact d4|exact d5) ?_|refine zI rfl (by first|exact la|exact w1) ?_|refine zA rfl ?_|refine aA ?_|refine aJ rfl ?_|refine aD rfl km ?_|refine zX rfl (c7 hx) ?_|refine zX rfl (c7 hy) ?_|refine aO mixed [0,1,2,3,4,5,6,7,8,9,10,11,12,16,17,13,14,15,18,19,20,21,22,23] [.P,.P,.R,.R,.P,.P,.P,.P,.P,.P,.P,.P,.P,.R,.R,.R,.P,.P,.R,.R,.R,.P,.P,.P] rfl rfl (by kernel_rfl) ?_)
     exact⟨rfl,_,rfl,rfl,rfl⟩
 ·have d1:decide ((i:Int) < (l.length:Int))=false:=by simp;omega
  obtain rfl:i=l.length:=by omega
  rw[List.drop_length] at hinv
  have e:gW fB Sn.client none l=true:=by
   rw[hinv]
   cases pv Sn.client l l.length<;>rfl
  rw[e,←h50]
  repeat' (first|refine zB rfl d1 ?_|refine zI rfl la ?_|refine zA rfl ?_|refine aA ?_|refine aJ rfl ?_)
  exact⟨rfl,_,rfl,rfl,rfl⟩
theorem pX (l:List Pn) (hl:l.length < 1000000):aN Tryz.prog 105 [bI l .none] (.bool (gW dP Pn.session none l&&decide (l.length≤50))):=by
 intro M
 refine aC aF Tryz.func105 rfl (by decide) (by simp[Tryz.f105]) ?_
 have la:=aU Pn.av l
 have h50:=a2y l.length
 unfold bI
 repeat' (first|refine zA rfl ?_|refine aA ?_|refine aJ rfl ?_)
 refine aX l.length (fun i f N=>N=M∧(gW dP Pn.session none l=gW dP Pn.session (pv Pn.session l i) (l.drop i))∧f=⟨[(0,.sl 2 (l.map Pn.av) .none),(3,.int .i64 (i:Int))],[]⟩) (Nat.zero_le _) ⟨rfl,rfl,rfl⟩ (aM.le ?_ (aI.le_refl _)) ?_
 ·skip
  repeat (refine AF.le_cons rfl ?_)
  exact AF.le_nil rfl
 rintro i f N hi ⟨rfl,hinv,rfl⟩
 by_cases h1:i < l.length
 ·have d1:decide ((i:Int) < (l.length:Int))=true:=by simp;omega
  have hx:l[i]? =some l[i]:=List.getElem?_eq_getElem h1
  have fi:=aQ (i:=i) (by omega)
  have ht:=b7 hx
  have hm:=List.getElem_mem h1
  generalize l[i]=x at hx ht hm
  rw[IY hx] at hinv
  by_cases a1:0≤x.session
  ·have b1:decide (x.session < 0)=false:=decide_eq_false (by omega)
   by_cases a2:x.session≤1000000
   ·have b2:decide (1000000 < x.session)=false:=decide_eq_false (by omega)
    by_cases a3:0≤x.at_
    ·have b3:decide (x.at_ < 0)=false:=decide_eq_false (by omega)
     by_cases a4:x.at_≤1000000000
     ·have b4:decide (1000000000 < x.at_)=false:=decide_eq_false (by omega)
      have hq:dP x=true:=by simp[dP,a1,a2,a3,a4]
      by_cases h0:i=0
      ·subst h0
       have e:=hinv.trans (xO hq)
       rw[←nV hx] at e
       repeat' (first|refine zB rfl (by first|exact d1|exact b1|exact b2|exact b3|exact b4) ?_|refine zI rfl (by first|exact la|exact fi) ?_|refine zA rfl ?_|refine aA ?_|refine aJ rfl ?_|refine zX rfl (c7 hx) ?_|refine aO mixed [0,1,2,3,4,5,6,7,8,9,10,11,12,13,14,15,16,17,18,19,20,21,22,23,24,25,26,27,28,29,30,31,32,33,34,35,36,40,41,37,38,39,42,43,44,45,46,47] [.P,.P,.R,.R,.R,.P,.P,.P,.P,.R,.R,.R,.P,.P,.P,.P,.P,.R,.R,.R,.P,.P,.P,.P,.P,.R,.R,.R,.P,.P,.P,.P,.P,.P,.P,.P,.P,.R,.R,.R,.P,.P,.R,.R,.R,.P,.P,.P] rfl rfl (by kernel_rfl) ?_)
       refine⟨h1,_,_,⟨rfl,e,rfl⟩,aM.le ?_ (aI.le_refl _)⟩
       repeat (refine AF.le_cons rfl ?_)
       exact AF.le_nil rfl
      ·obtain⟨k,rfl⟩:∃k,i=k+1:=⟨i - 1,by omega⟩
       have d4:decide ((0:Int) < ((k+1:Nat):Int))=true:=decide_eq_true (by omega)
       have w1:IntKind.wrap .i64 (((k+1:Nat):Int) - 1)=(k:Int):=(Go.Ab.wrap_small (by omega) (by omega)).trans (by omega)
       have hy:l[k]? =some l[k]:=List.getElem?_eq_getElem (by omega)
       generalize l[k]=y at hy
       rw[nV hy] at hinv
       by_cases h2:y.session < x.session
       ·have d5:decide (x.session≤y.session)=false:=decide_eq_false (by omega)
        have e:=hinv.trans (xQ hq h2)
        rw[←nV hx] at e
        repeat' (first|refine zB rfl (by first|exact d1|exact d4|exact d5|exact b1|exact b2|exact b3|exact b4) ?_|refine zI rfl (by first|exact la|exact fi|exact w1) ?_|refine zA rfl ?_|refine aA ?_|refine aJ rfl ?_|refine zX rfl (c7 hx) ?_|refine zX rfl (c7 hy) ?_|refine aO mixed [0,1,2,3,4,5,6,7,8,9,10,11,12,13,14,15,16,17,18,19,20,21,22,23,24,25,26,27,28,29,30,31,32,33,34,35,36,40,41,37,38,39,42,43,44,45,46,47] [.P,.P,.R,.R,.R,.P,.P,.P,.P,.R,.R,.R,.P,.P,.P,.P,.P,.R,.R,.R,.P,.P,.P,.P,.P,.R,.R,.R,.P,.P,.P,.P,.P,.P,.P,.P,.P,.R,.R,.R,.P,.P,.R,.R,.R,.P,.P,.P] rfl rfl (by kernel_rfl) ?_)
        refine⟨h1,_,_,⟨rfl,e,rfl⟩,aM.le ?_ (aI.le_refl _)⟩
        repeat (refine AF.le_cons rfl ?_)
        exact AF.le_nil rfl
       ·have d5:decide (x.session≤y.session)=true:=decide_eq_true (by omega)
        rw[hinv,xL h2]
        repeat' (first|refine zB rfl (by first|exact d1|exact d4|exact d5|exact b1|exact b2|exact b3|exact b4) ?_|refine zI rfl (by first|exact la|exact w1) ?_|refine zA rfl ?_|refine aA ?_|refine aJ rfl ?_|refine zX rfl (c7 hx) ?_|refine zX rfl (c7 hy) ?_|refine aO mixed [0,1,2,3,4,5,6,7,8,9,10,11,12,13,14,15,16,17,18,19,20,21,22,23,24,25,26,27,28,29,30,31,32,33,34,35,36,40,41,37,38,39,42,43,44,45,46,47] [.P,.P,.R,.R,.R,.P,.P,.P,.P,.R,.R,.R,.P,.P,.P,.P,.P,.R,.R,.R,.P,.P,.P,.P,.P,.R,.R,.R,.P,.P,.P,.P,.P,.P,.P,.P,.P,.R,.R,.R,.P,.P,.R,.R,.R,.P,.P,.P] rfl rfl (by kernel_rfl) ?_)
        exact⟨rfl,_,rfl,rfl,rfl⟩
     ·have b4:decide (1000000000 < x.at_)=true:=decide_eq_true (by omega)
      rw[hinv,nO (by simp[dP,a4])]
      repeat' (first|refine zB rfl (by first|exact d1|exact b1|exact b2|exact b3|exact b4) ?_|refine zI rfl la ?_|refine zA rfl ?_|refine aA ?_|refine aJ rfl ?_|refine zX rfl (c7 hx) ?_|refine aO mixed [0,1,2,3,4,5,6,7,8,9,10,11,12,13,14,15,16,17,18,19,20,21,22,23,24,25,26,27,28,29,30,31,32,33,34,35,36,40,41,37,38,39,42,43,44,45,46,47] [.P,.P,.R,.R,.R,.P,.P,.P,.P,.R,.R,.R,.P,.P,.P,.P,.P,.R,.R,.R,.P,.P,.P,.P,.P,.R,.R,.R,.P,.P,.P,.P,.P,.P,.P,.P,.P,.R,.R,.R,.P,.P,.R,.R,.R,.P,.P,.P] rfl rfl (by kernel_rfl) ?_)
      exact⟨rfl,_,rfl,rfl,rfl⟩
    ·have b3:decide (x.at_ < 0)=true:=decide_eq_true (by omega)
     rw[hinv,nO (by simp[dP,a3])]
     repeat' (first|refine zB rfl (by first|exact d1|exact b1|exact b2|exact b3) ?_|refine zI rfl la ?_|refine zA rfl ?_|refine aA ?_|refine aJ rfl ?_|refine zX rfl (c7 hx) ?_|refine aO mixed [0,1,2,3,4,5,6,7,8,9,10,11,12,13,14,15,16,17,18,19,20,21,22,23,24,25,26,27,28,29,30,31,32,33,34,35,36,40,41,37,38,39,42,43,44,45,46,47] [.P,.P,.R,.R,.R,.P,.P,.P,.P,.R,.R,.R,.P,.P,.P,.P,.P,.R,.R,.R,.P,.P,.P,.P,.P,.R,.R,.R,.P,.P,.P,.P,.P,.P,.P,.P,.P,.R,.R,.R,.P,.P,.R,.R,.R,.P,.P,.P] rfl rfl (by kernel_rfl) ?_)
     exact⟨rfl,_,rfl,rfl,rfl⟩
   ·have b2:decide (1000000 < x.session)=true:=decide_eq_true (by omega)
    rw[hinv,nO (by simp[dP,a2])]
    repeat' (first|refine zB rfl (by first|exact d1|exact b1|exact b2) ?_|refine zI rfl la ?_|refine zA rfl ?_|refine aA ?_|refine aJ rfl ?_|refine zX rfl (c7 hx) ?_|refine aO mixed [0,1,2,3,4,5,6,7,8,9,10,11,12,13,14,15,16,17,18,19,20,21,22,23,24,25,26,27,28,29,30,31,32,33,34,35,36,40,41,37,38,39,42,43,44,45,46,47] [.P,.P,.R,.R,.R,.P,.P,.P,.P,.R,.R,.R,.P,.P,.P,.P,.P,.R,.R,.R,.P,.P,.P,.P,.P,.R,.R,.R,.P,.P,.P,.P,.P,.P,.P,.P,.P,.R,.R,.R,.P,.P,.R,.R,.R,.P,.P,.P] rfl rfl (by kernel_rfl) ?_)
    exact⟨rfl,_,rfl,rfl,rfl⟩
  ·have b1:decide (x.session < 0)=true:=decide_eq_true (by omega)
   rw[hinv,nO (by simp[dP,a1])]
   repeat' (first|refine zB rfl (by first|exact d1|exact b1) ?_|refine zI rfl la ?_|refine zA rfl ?_|refine aA ?_|refine aJ rfl ?_|refine zX rfl (c7 hx) ?_|refine aO mixed [0,1,2,3,4,5,6,7,8,9,10,11,12,13,14,15,16,17,18,19,20,21,22,23,24,25,26,27,28,29,30,31,32,33,34,35,36,40,41,37,38,39,42,43,44,45,46,47] [.P,.P,.R,.R,.R,.P,.P,.P,.P,.R,.R,.R,.P,.P,.P,.P,.P,.R,.R,.R,.P,.P,.P,.P,.P,.R,.R,.R,.P,.P,.P,.P,.P,.P,.P,.P,.P,.R,.R,.R,.P,.P,.R,.R,.R,.P,.P,.P] rfl rfl (by kernel_rfl) ?_)
   exact⟨rfl,_,rfl,rfl,rfl⟩
 ·have d1:decide ((i:Int) < (l.length:Int))=false:=by simp;omega
  obtain rfl:i=l.length:=by omega
  rw[List.drop_length] at hinv
  have e:gW dP Pn.session none l=true:=by
   rw[hinv]
   cases pv Pn.session l l.length<;>rfl
  rw[e,←h50]
  repeat' (first|refine zB rfl d1 ?_|refine zI rfl la ?_|refine zA rfl ?_|refine aA ?_|refine aJ rfl ?_)
  exact⟨rfl,_,rfl,rfl,rfl⟩
theorem NQ (a b:List Pn) (ta tb:eI) (ha:a.length < 1000000) (hb:b.length < 1000000):aN Tryz.prog 60 [bI a ta,bI b tb] (.bool (decide (a=b))):=by
 intro M
 refine aC aF Tryz.func60 rfl (by decide) (by simp[Tryz.f60]) ?_
 have la:=aU Pn.av a
 have lb:=aU Pn.av b
 unfold bI
 by_cases hl:a.length=b.length
 ·have d0:(!decide ((a.length:Int)=(b.length:Int)))=false:=by simp;omega
  repeat' (first|refine zB rfl d0 ?_|refine zI rfl (by first|exact la|exact lb) ?_|refine zA rfl ?_|refine aA ?_|refine aJ rfl ?_)
  refine aX a.length (fun i f N=>N=M∧(a.take i=b.take i)∧f=⟨[(0,.sl 2 (a.map Pn.av) ta),(1,.sl 2 (b.map Pn.av) tb),(5,.int .i64 (i:Int))],[]⟩) (Nat.zero_le _) ⟨rfl,by simp,rfl⟩ (aM.le ?_ (aI.le_refl _)) ?_
  ·skip
   repeat (refine AF.le_cons rfl ?_)
   exact AF.le_nil rfl
  rintro i f N hi ⟨rfl,hinv,rfl⟩
  by_cases h1:i < a.length
  ·have d1:decide ((i:Int) < (a.length:Int))=true:=by simp;omega
   have hx:a[i]? =some a[i]:=List.getElem?_eq_getElem h1
   have fi:=aQ (i:=i) (by omega)
   have ht:=b7 hx
   have hm:=List.getElem_mem h1
   generalize a[i]=x at hx ht hm
   have hy:b[i]? =some b[i]:=List.getElem?_eq_getElem (by omega)
   have hu:=b7 hy
   generalize b[i]=y at hy hu
   by_cases h3:x=y
   ·have d3:=(Z9 x y).trans (show (!decide (x=y))=false by simp[h3])
    repeat' (first|refine zB rfl (by first|exact d1|exact d3) ?_|refine zI rfl (by first|exact fi|exact la) ?_|refine zA rfl ?_|refine aA ?_|refine aJ rfl ?_|refine zX rfl (c7 hx) ?_|refine zX rfl (c7 hy) ?_|refine aO mixed [0,1,4,5,2,3,6,7,8] [.P,.P,.R,.R,.P,.P,.R,.R,.P] rfl rfl (by kernel_rfl) ?_)
    refine⟨h1,_,_,⟨rfl,by rw[ht,hu,hinv,h3],rfl⟩,aM.le ?_ (aI.le_refl _)⟩
    repeat (refine AF.le_cons rfl ?_)
    exact AF.le_nil rfl
   ·have d3:=(Z9 x y).trans (show (!decide (x=y))=true by simp[h3])
    have e:decide (a=b)=false:=by
     refine decide_eq_false fun e=>h3 ?_
     subst e
     rw[hx] at hy
     cases hy
     rfl
    rw[e]
    repeat' (first|refine zB rfl (by first|exact d1|exact d3) ?_|refine zI rfl (by first|exact fi|exact la) ?_|refine zA rfl ?_|refine aA ?_|refine aJ rfl ?_|refine zX rfl (c7 hx) ?_|refine zX rfl (c7 hy) ?_|refine aO mixed [0,1,4,5,2,3,6,7,8] [.P,.P,.R,.R,.P,.P,.R,.R,.P] rfl rfl (by kernel_rfl) ?_)
    exact⟨rfl,_,rfl,rfl,rfl⟩
  ·have d1:decide ((i:Int) < (a.length:Int))=false:=by simp;omega
   obtain rfl:i=a.length:=by omega
   rw[gX,hl,gX] at hinv
   have e:decide (a=b)=true:=by simp[hinv]
   rw[e]
   repeat' (first|refine zB rfl d1 ?_|refine zI rfl la ?_|refine zA rfl ?_|refine aA ?_|refine aJ rfl ?_)
   exact⟨rfl,_,rfl,rfl,rfl⟩
 ·have d0:(!decide ((a.length:Int)=(b.length:Int)))=true:=by simp;omega
  have e:decide (a=b)=false:=decide_eq_false fun e=>hl (by rw[e])
  rw[e]
  repeat' (first|refine zB rfl d0 ?_|refine zI rfl (by first|exact la|exact lb) ?_|refine zA rfl ?_|refine aA ?_|refine aJ rfl ?_)
  exact⟨rfl,_,rfl,rfl,rfl⟩
theorem JD (a b:List Sn) (ta tb:eI) (ha:a.length < 1000000) (hb:b.length < 1000000):aN Tryz.prog 61 [bU a ta,bU b tb] (.bool (decide (a=b))):=by
 intro M
 refine aC aF Tryz.func61 rfl (by decide) (by simp[Tryz.f61]) ?_
 have la:=aU Sn.av a
 have lb:=aU Sn.av b
 unfold bU
 by_cases hl:a.length=b.length
 ·have d0:(!decide ((a.length:Int)=(b.length:Int)))=false:=by simp;omega
  repeat' (first|refine zB rfl d0 ?_|refine zI rfl (by first|exact la|exact lb) ?_|refine zA rfl ?_|refine aA ?_|refine aJ rfl ?_)
  refine aX a.length (fun i f N=>N=M∧(a.take i=b.take i)∧f=⟨[(0,.sl 4 (a.map Sn.av) ta),(1,.sl 4 (b.map Sn.av) tb),(5,.int .i64 (i:Int))],[]⟩) (Nat.zero_le _) ⟨rfl,by simp,rfl⟩ (aM.le ?_ (aI.le_refl _)) ?_
  ·skip
   repeat (refine AF.le_cons rfl ?_)
   exact AF.le_nil rfl
  rintro i f N hi ⟨rfl,hinv,rfl⟩
  by_cases h1:i < a.length
  ·have d1:decide ((i:Int) < (a.length:Int))=true:=by simp;omega
   have hx:a[i]? =some a[i]:=List.getElem?_eq_getElem h1
   have fi:=aQ (i:=i) (by omega)
   have ht:=b7 hx
   have hm:=List.getElem_mem h1
   generalize a[i]=x at hx ht hm
   have hy:b[i]? =some b[i]:=List.getElem?_eq_getElem (by omega)
   have hu:=b7 hy
   generalize b[i]=y at hy hu
   by_cases h3:x=y
   ·have d3:=(XW x y).trans (show (!decide (x=y))=false by simp[h3])
    repeat' (first|refine zB rfl (by first|exact d1|exact d3) ?_|refine zI rfl (by first|exact fi|exact la) ?_|refine zA rfl ?_|refine aA ?_|refine aJ rfl ?_|refine zX rfl (c7 hx) ?_|refine zX rfl (c7 hy) ?_|refine aO mixed [0,1,4,5,2,3,6,7,8] [.P,.P,.R,.R,.P,.P,.R,.R,.P] rfl rfl (by kernel_rfl) ?_)
    refine⟨h1,_,_,⟨rfl,by rw[ht,hu,hinv,h3],rfl⟩,aM.le ?_ (aI.le_refl _)⟩
    repeat (refine AF.le_cons rfl ?_)
    exact AF.le_nil rfl
   ·have d3:=(XW x y).trans (show (!decide (x=y))=true by simp[h3])
    have e:decide (a=b)=false:=by
     refine decide_eq_false fun e=>h3 ?_
     subst e
     rw[hx] at hy
     cases hy
     rfl
    rw[e]
    repeat' (first|refine zB rfl (by first|exact d1|exact d3) ?_|refine zI rfl (by first|exact fi|exact la) ?_|refine zA rfl ?_|refine aA ?_|refine aJ rfl ?_|refine zX rfl (c7 hx) ?_|refine zX rfl (c7 hy) ?_|refine aO mixed [0,1,4,5,2,3,6,7,8] [.P,.P,.R,.R,.P,.P,.R,.R,.P] rfl rfl (by kernel_rfl) ?_)
    exact⟨rfl,_,rfl,rfl,rfl⟩
  ·have d1:decide ((i:Int) < (a.length:Int))=false:=by simp;omega
   obtain rfl:i=a.length:=by omega
   rw[gX,hl,gX] at hinv
   have e:decide (a=b)=true:=by simp[hinv]
   rw[e]
   repeat' (first|refine zB rfl d1 ?_|refine zI rfl la ?_|refine zA rfl ?_|refine aA ?_|refine aJ rfl ?_)
   exact⟨rfl,_,rfl,rfl,rfl⟩
 ·have d0:(!decide ((a.length:Int)=(b.length:Int)))=true:=by simp;omega
  have e:decide (a=b)=false:=decide_eq_false fun e=>hl (by rw[e])
  rw[e]
  repeat' (first|refine zB rfl d0 ?_|refine zI rfl (by first|exact la|exact lb) ?_|refine zA rfl ?_|refine aA ?_|refine aJ rfl ?_)
  exact⟨rfl,_,rfl,rfl,rfl⟩
def m1:Mt:=⟨1,0,[]⟩
def v1:aG:=(cI m1 false).1
def l1:List Pr:=[⟨⟨[97],1⟩,v1⟩,⟨⟨[98],1⟩,v1⟩]
def l3:List Pr:=[⟨⟨[97],3⟩,[0]⟩,⟨⟨[97],1⟩,v1⟩,⟨⟨[98],1⟩,v1⟩]
def iQ (l:List Pr):AV:=.sl 3 (l.map Pr.av) .none
theorem c6 (l:List Pr):aP (iQ l):=gO (fun p=>i7 p) (fun p c hc=>by
 have:c∈[AV.str p.key.path,.int .i64 p.key.time,.str p.val]:=hc
 exact cD aR aB aR c this)
def UN (l:List Pr) (i:Nat):AF:=⟨[(0,iQ l),(3,.int .i64 (i:Int))],[]⟩
theorem tG (l:List Pr) (hl:l.length < 1000000) (hv:dD l):aN Tryz.prog 103 [iQ l] (.bool (eY l)):=by
 refine aT (aY (c6 l)) (aL) ?_
 refine aC aF Tryz.func103 rfl (by decide) (by simp[Tryz.f103]) ?_
 have la:=aU Pr.av l
 unfold iQ
 repeat' (first|refine zA rfl ?_|refine aA ?_|refine aJ rfl ?_)
 refine aX l.length (fun i f N=>N=⟨0,[]⟩∧eY (l.take i)=true∧f=UN l i) (Nat.zero_le _) ⟨rfl,rfl,rfl⟩ (aM.le ?_ (aI.le_nil rfl)) ?_
 ·unfold UN iQ
  repeat (refine AF.le_cons rfl ?_)
  exact AF.le_nil rfl
 rintro i f N hi ⟨rfl,hinv,rfl⟩
 unfold UN iQ
 by_cases h1:i < l.length
 ·have d1:decide ((i:Int) < (l.length:Int))=true:=by simp;omega
  have hx:l[i]? =some l[i]:=List.getElem?_eq_getElem h1
  have fi:=aQ (i:=i) (by omega)
  have ht:=b7 hx
  have hm:=List.getElem_mem h1
  have hsx:=hv _ hm
  have hno:FB l[i]=false→eY l=false:=fun h=>by
   rw[Bool.eq_false_iff]
   intro h2
   rw[AS h2 hm] at h
   cases h
  have hyes:FB l[i]=true→eY (l.take (i+1))=true:=fun h=>by
   unfold eY at hinv ⊢
   rw[ht,List.all_append,hinv]
   simp[h]
  generalize l[i]=x at*
  have kr:=A5 x.val hsx.2
  have kk:=T0 x.key hsx.1
  have hcl:=c6 l
  unfold FB at hno hyes
  unfold rmA at kr
  cases g1:mW x.key
  ·rw[g1] at kk
   rw[hno (by rw[g1];simp)]
   repeat' (first|refine zB rfl d1 ?_|refine zI rfl la ?_|refine zA rfl ?_|refine aA ?_|refine aJ rfl ?_|refine aD rfl kr ?_|refine aD rfl kk ?_|refine zX rfl (c7 hx) ?_)
   exact⟨rfl,_,rfl,_,rfl,aH.of_closed aL⟩
  ·rw[g1] at kk
   by_cases g2:x.key.path=[]
   ·have d2:(x.key.path==([]:aG))=true:=by simp[g2]
    rw[hno (by rw[d2];simp)]
    repeat' (first|refine zB rfl (by first|exact d1|exact d2) ?_|refine zI rfl la ?_|refine zA rfl ?_|refine aA ?_|refine aJ rfl ?_|refine aD rfl kr ?_|refine aD rfl kk ?_|refine zX rfl (c7 hx) ?_)
    exact⟨rfl,_,rfl,_,rfl,aH.of_closed aL⟩
   ·have d2:(x.key.path==([]:aG))=false:=by simp[g2]
    by_cases g3:(bW x.val).2.2=0
    ·have d3:(!decide ((bW x.val).2.2=0))=false:=by simp[g3]
     repeat' (first|refine zB rfl (by first|exact d1|exact d2|exact d3) ?_|refine zI rfl (by first|exact la|exact fi) ?_|refine zA rfl ?_|refine aA ?_|refine aJ rfl ?_|refine aD rfl kr ?_|refine aD rfl kk ?_|refine zX rfl (c7 hx) ?_)
     refine⟨h1,UN l (i+1),⟨0,[]⟩,⟨rfl,hyes (by rw[g1,d2,decide_eq_true g3];rfl),rfl⟩,aM.cut (k:=0) (t:=(UN l (i+1)).t) (l:=[]) (Nat.le_refl _) (Nat.zero_le _) rfl ⟨aH.of_closed hcl,aH.of_closed aB,trivial⟩ trivial⟩
    ·have d3:(!decide ((bW x.val).2.2=0))=true:=by simp[g3]
     rw[hno (by rw[decide_eq_false g3];rfl)]
     repeat' (first|refine zB rfl (by first|exact d1|exact d2|exact d3) ?_|refine zI rfl la ?_|refine zA rfl ?_|refine aA ?_|refine aJ rfl ?_|refine aD rfl kr ?_|refine aD rfl kk ?_|refine zX rfl (c7 hx) ?_)
     exact⟨rfl,_,rfl,_,rfl,aH.of_closed aL⟩
 ·have d1:decide ((i:Int) < (l.length:Int))=false:=by simp;omega
  obtain rfl:i=l.length:=by omega
  rw[List.take_length] at hinv
  rw[hinv]
  repeat' (first|refine zB rfl d1 ?_|refine zI rfl la ?_|refine zA rfl ?_|refine aA ?_|refine aJ rfl ?_)
  exact⟨rfl,_,rfl,_,rfl,aH.of_closed aL⟩
theorem GZ (l:List Pr) (hl:l.length < 1000000) (hv:dD l):aN Tryz.prog 104 [iQ l] (.int .i64 (eO l)):=by
 intro M
 refine aC aF Tryz.func104 rfl (by decide) (by simp[Tryz.f104]) ?_
 have la:=aU Pr.av l
 have ki:=tG l hl hv
 unfold iQ eO at*
 cases h:eY l
 ·rw[h] at ki
  rw[if_neg (by simp)]
  repeat' (first|refine zA rfl ?_|refine aA ?_|refine aJ rfl ?_)
  refine aX 0 (fun i f N=>N=M∧f=⟨[(0,.sl 3 (l.map Pr.av) .none),(3,.int .i64 0),(4,.int .i64 (i:Int))],[]⟩) (Nat.zero_le _) ⟨rfl,rfl⟩ (aM.le ?_ (aI.le_refl _)) ?_
  ·skip
   repeat (refine AF.le_cons rfl ?_)
   exact AF.le_nil rfl
  rintro i f N hi ⟨rfl,rfl⟩
  obtain rfl:i=0:=by omega
  by_cases h1:0 < l.length
  ·have d1:decide ((((0:Nat):Int)) < (l.length:Int))=true:=decide_eq_true (by omega)
   have d2:decide ((0:Int) < (l.length:Int))=true:=decide_eq_true (by omega)
   repeat' (first|refine zB rfl d1 ?_|refine zI rfl la ?_|refine zA rfl ?_|refine aA ?_|refine aJ rfl ?_|refine aD rfl ki ?_)
   exact⟨rfl,_,rfl,rfl,rfl⟩
  ·have d1:decide ((((0:Nat):Int)) < (l.length:Int))=false:=decide_eq_false (by omega)
   have d2:decide ((0:Int) < (l.length:Int))=false:=decide_eq_false (by omega)
   repeat' (first|refine zB rfl d1 ?_|refine zI rfl la ?_|refine zA rfl ?_|refine aA ?_|refine aJ rfl ?_)
   exact⟨rfl,_,rfl,rfl,rfl⟩
 ·rw[h] at ki
  rw[if_pos rfl]
  repeat' (first|refine zA rfl ?_|refine aA ?_|refine aJ rfl ?_)
  refine aX l.length (fun i f N=>N=M∧f=⟨[(0,.sl 3 (l.map Pr.av) .none),(3,.int .i64 (jI (l.take i))),(4,.int .i64 (i:Int))],[]⟩) (Nat.zero_le _) ⟨rfl,rfl⟩ (aM.le ?_ (aI.le_refl _)) ?_
  ·skip
   repeat (refine AF.le_cons rfl ?_)
   exact AF.le_nil rfl
  rintro i f N hi ⟨rfl,rfl⟩
  by_cases h1:i < l.length
  ·have d1:decide ((i:Int) < (l.length:Int))=true:=by simp;omega
   have hx:l[i]? =some l[i]:=List.getElem?_eq_getElem h1
   have fi:=aQ (i:=i) (by omega)
   have ht:=b7 hx
   generalize l[i]=x at hx ht
   have mx:=V7 (jI (l.take i)) x.key.time
   have ms:jI (l.take (i+1))=max (jI (l.take i)) x.key.time:=by unfold jI;rw[ht,List.foldl_append];rfl
   repeat' (first|refine zB rfl d1 ?_|refine zI rfl (by first|exact la|exact fi|exact mx) ?_|refine zA rfl ?_|refine aA ?_|refine aJ rfl ?_|refine aD rfl ki ?_|refine zX rfl (c7 hx) ?_)
   refine⟨h1,_,_,⟨rfl,rfl⟩,aM.le ?_ (aI.le_refl _)⟩
   rw[ms]
   repeat (refine AF.le_cons rfl ?_)
   exact AF.le_nil rfl
  ·have d1:decide ((i:Int) < (l.length:Int))=false:=by simp;omega
   obtain rfl:i=l.length:=by omega
   rw[List.take_length]
   repeat' (first|refine zB rfl d1 ?_|refine zI rfl la ?_|refine zA rfl ?_|refine aA ?_|refine aJ rfl ?_)
   exact⟨rfl,_,rfl,rfl,rfl⟩
def Sg.cells (s:Sg):List AV:=[.int .i64 s.last,.int .i64 s.mark,.sl 3 (s.pairs.map Pr.av) .none,bI s.pins .none,bU s.seen .none]
def Sg.av (s:Sg):AV:=.agg s.cells
theorem LG (s:Sg):∀c,c∈s.cells→aP c:=eK aB (eK aB (cD (bO _) (bP _ (.inl rfl)) (bQ _ (.inl rfl))))
theorem bX (s:Sg):aP s.av:=cP (LG s)
theorem a61 (l:List Pr) (tg:eI) (hl:l.length < 1000000):aN Tryz.prog 62 [.sl 3 (l.map Pr.av) tg] (.bool (decide (cJ l))):=by
 intro M
 refine aC aF Tryz.func62 rfl (by decide) (by simp[Tryz.f62]) ?_
 have la:=aU Pr.av l
 by_cases h0:l=[]
 ·subst h0
  repeat' (first|refine zA rfl ?_|refine aA ?_|refine aJ rfl ?_)
  refine aX 0 (fun i f N=>N=M∧f=⟨[(0,.sl 3 ([].map Pr.av) tg),(3,.int .i64 ((i+1:Nat):Int))],[]⟩) (Nat.zero_le _) ⟨rfl,rfl⟩ (aM.le ?_ (aI.le_refl _)) ?_
  ·skip
   repeat (refine AF.le_cons rfl ?_)
   exact AF.le_nil rfl
  rintro i f N hi ⟨rfl,rfl⟩
  obtain rfl:i=0:=by omega
  repeat' (first|refine zA rfl ?_|refine aA ?_|refine aJ rfl ?_)
  exact⟨rfl,_,rfl,by rw[decide_eq_true (List.Pairwise.nil:cJ [])];rfl,rfl⟩
 ·have hpos:0 < l.length:=List.length_pos_iff.2 h0
  repeat' (first|refine zA rfl ?_|refine aA ?_|refine aJ rfl ?_)
  refine aX (l.length - 1) (fun i f N=>N=M∧(∀(j:Nat) a b,j < i→l[j]? =some a→l[j+1]? =some b→bG a.key b.key=true)∧f=⟨[(0,.sl 3 (l.map Pr.av) tg),(3,.int .i64 ((i+1:Nat):Int))],[]⟩) (Nat.zero_le _) ⟨rfl,fun j a b hj=>absurd hj (Nat.not_lt_zero _),rfl⟩ (aM.le ?_ (aI.le_refl _)) ?_
  ·skip
   repeat (refine AF.le_cons rfl ?_)
   exact AF.le_nil rfl
  rintro i f N hi ⟨rfl,hinv,rfl⟩
  by_cases h1:i < l.length - 1
  ·have d1:decide (((i+1:Nat):Int) < (l.length:Int))=true:=by simp;omega
   have hx:l[i]? =some l[i]:=List.getElem?_eq_getElem (by omega)
   have hy:l[i+1]? =some l[i+1]:=List.getElem?_eq_getElem (by omega)
   have fi:=aQ (i:=i+1) (by omega)
   have w1:IntKind.wrap .i64 (((i+1:Nat):Int) - 1)=(i:Int):=(Go.Ab.wrap_small (by omega) (by omega)).trans (by omega)
   generalize l[i]=x at hx
   generalize l[i+1]=y at hy
   have kl:=EB x.key y.key
   rw[G8] at kl
   unfold Ky.av at kl
   cases h3:bG x.key y.key
   ·rw[h3] at kl
    have e:decide (cJ l)=false:=decide_eq_false fun hr=>by rw[PE hr (Nat.lt_succ_self i) hx hy] at h3;cases h3
    rw[e]
    repeat' (first|refine zB rfl d1 ?_|refine zI rfl (by first|exact fi|exact la|exact w1) ?_|refine zA rfl ?_|refine aA ?_|refine aJ rfl ?_|refine aD rfl kl ?_|refine zX rfl (c7 hx) ?_|refine zX rfl (c7 hy) ?_|refine aO mixed [0,1,2,6,7,3,4,5,8,9,10,11,12] [.P,.P,.P,.R,.R,.R,.P,.P,.R,.R,.R,.P,.P] rfl rfl (by kernel_rfl) ?_)
    exact⟨rfl,_,rfl,rfl,rfl⟩
   ·rw[h3] at kl
    repeat' (first|refine zB rfl d1 ?_|refine zI rfl (by first|exact fi|exact la|exact w1) ?_|refine zA rfl ?_|refine aA ?_|refine aJ rfl ?_|refine aD rfl kl ?_|refine zX rfl (c7 hx) ?_|refine zX rfl (c7 hy) ?_|refine aO mixed [0,1,2,6,7,3,4,5,8,9,10,11,12] [.P,.P,.P,.R,.R,.R,.P,.P,.R,.R,.R,.P,.P] rfl rfl (by kernel_rfl) ?_)
    refine⟨h1,_,_,⟨rfl,?_,rfl⟩,aM.le ?_ (aI.le_refl _)⟩
    ·intro j a b hj ha hb
     by_cases hji:j=i
     ·subst hji
      rw[hx] at ha;rw[hy] at hb
      cases ha;cases hb
      exact h3
     ·exact hinv j a b (by omega) ha hb
    ·skip
     repeat (refine AF.le_cons rfl ?_)
     exact AF.le_nil rfl
  ·have d1:decide (((i+1:Nat):Int) < (l.length:Int))=false:=by simp;omega
   have e:decide (cJ l)=true:=decide_eq_true (AM l fun j a b ha hb=>hinv j a b (by have:=(List.getElem?_eq_some_iff.1 hb).1;omega) ha hb)
   rw[e]
   repeat' (first|refine zB rfl d1 ?_|refine zI rfl la ?_|refine zA rfl ?_|refine aA ?_|refine aJ rfl ?_)
   exact⟨rfl,_,rfl,rfl,rfl⟩
noncomputable def dtF (s:Sg) (i:Nat):AF:=⟨[(3,(iG (s.pairs.take i)).av),(8,.sl 3 (s.pairs.map Pr.av) .none),(9,.int .i64 (s.pairs.length:Int)),(10,.int .i64 (i:Int))],[]⟩
theorem I2 (s:Sg) (hl:s.pairs.length < 1000):aN Tryz.prog 51 [s.av] (iG s.pairs).av:=by
 refine aT (aY (bX s)) (bL _) ?_
 refine aC aF Tryz.func51 rfl (by decide) (by simp[Tryz.f51]) ?_
 have la:=aU Pr.av s.pairs
 have k0:=a60
 unfold Sg.av Sg.cells
 repeat' (first|refine zI rfl la ?_|refine zA rfl ?_|refine aA ?_|refine aJ rfl ?_|refine aD rfl k0 ?_)
 refine aX s.pairs.length (fun i f N=>N=⟨0,[]⟩∧f=dtF s i) (Nat.zero_le _) ⟨rfl,rfl⟩ (aM.le ?_ (aI.le_nil rfl)) ?_
 ·unfold dtF
  repeat (refine AF.le_cons rfl ?_)
  exact AF.le_nil rfl
 rintro i f N hi ⟨rfl,rfl⟩
 unfold dtF
 by_cases h1:i < s.pairs.length
 ·have d1:decide ((i:Int) < (s.pairs.length:Int))=true:=decide_eq_true (by omega)
  have hx:s.pairs[i]? =some s.pairs[i]:=List.getElem?_eq_getElem h1
  have fi:=aQ (i:=i) (by omega)
  have ht:=b7 hx
  generalize s.pairs[i]=x at hx ht
  have hall:=(KH (l:=s.pairs.take i) (by simp;omega))
  have kp:=OM (t:=iG (s.pairs.take i)) (p:=x) (by rw[hall.1];have:=hall.2;simp at this;omega)
  rw[←NZ ht] at kp
  have hc:=bL (iG (s.pairs.take (i+1)))
  unfold Pr.av at kp
  unfold Tr.av at kp ⊢
  repeat' (first|refine zB rfl d1 ?_|refine zI rfl fi ?_|refine zA rfl ?_|refine aA ?_|refine aJ rfl ?_|refine aD rfl kp ?_|refine zX rfl (c7 hx) ?_)
  refine⟨h1,dtF s (i+1),⟨0,[]⟩,⟨rfl,rfl⟩,aM.cut (k:=0) (t:=(dtF s (i+1)).t) (l:=[]) (Nat.le_refl _) (Nat.zero_le _) rfl ⟨?_,?_,?_,?_,trivial⟩ trivial⟩
  ·exact aH.of_closed hc
  ·exact aH.of_closed (bO _)
  ·exact aH.of_closed aB
  ·exact aH.of_closed aB
 ·have d1:decide ((i:Int) < (s.pairs.length:Int))=false:=decide_eq_false (by omega)
  obtain rfl:i=s.pairs.length:=by omega
  rw[List.take_length]
  have hc:=bL (iG s.pairs)
  generalize iG s.pairs=T at*
  unfold Tr.av at hc ⊢
  repeat' (first|refine zB rfl d1 ?_|refine zA rfl ?_|refine aA ?_|refine aJ rfl ?_)
  exact⟨rfl,_,rfl,_,rfl,aH.of_closed hc⟩
structure gA (s:Sg):Prop where
 pairs:s.pairs.length < 1000
 vals:dD s.pairs
 pins:s.pins.length < 1000
 seen:s.seen.length < 1000
theorem NL (s:Sg) (hs:gA s):aN Tryz.prog 25 [s.av] (.bool (bT s)):=by
 refine aT (aY (bX s)) (aL) ?_
 refine aC aF Tryz.func25 rfl (by decide) (by simp[Tryz.f25]) ?_
 have hn:=hs.pairs
 have kn:=a61 s.pairs .none (by omega)
 have kt:=I2 s hn
 have kp:aN Tryz.prog 65 [bI s.pins .none] (.bool (iT s.pins)):=zM s.pins (by have:=hs.pins;omega)
 have kq:aN Tryz.prog 66 [bU s.seen .none] (.bool (lS s.seen)):=C0 s.seen (by have:=hs.seen;omega)
 have la:=aU Pr.av s.pairs
 by_cases a1:0≤s.mark
 ·have b1:decide (0≤s.mark)=true:=decide_eq_true a1
  by_cases a2:s.mark≤s.last
  ·have b2:decide (s.mark≤s.last)=true:=decide_eq_true a2
   by_cases a3:s.last≤1000000000
   ·have b3:decide (s.last≤1000000000)=true:=decide_eq_true a3
    by_cases a4:s.pairs.length≤200
    ·have b4:decide ((200:Int) < (s.pairs.length:Int))=false:=decide_eq_false (by omega)
     by_cases a5:cJ s.pairs
     ·rw[decide_eq_true a5] at kn
      have hall:=qZ a5 (by omega)
      have k1:=s7 (iG s.pairs) (by rw[hall];omega) (by rw[hall];exact hs.vals)
      have k2:=PW (iG s.pairs) (by rw[hall];omega) (by rw[hall];exact hs.vals)
      rw[hall] at k1 k2
      have e:bT s=(((eY s.pairs&&decide (eO s.pairs≤s.last))&&iT s.pins)&&lS s.seen):=by simp[bT,a1,a2,a3,a4,a5]
      rw[e]
      clear hall e
      generalize iG s.pairs=T at*
      generalize eO s.pairs=m at*
      unfold Sg.av Sg.cells at*
      unfold Tr.av at kt k1 k2
      cases h1:eY s.pairs
      ·rw[h1] at k1
       repeat' (first|refine zB rfl (by first|exact b1|exact b2|exact b3|exact b4) ?_|refine zI rfl la ?_|refine zA rfl ?_|refine aA ?_|refine aJ rfl ?_|refine aD rfl kn ?_|refine aD rfl kt ?_|refine aD rfl k1 ?_|refine aO mixed [0,1,2,3,4,5,6,7,8,9,10,11,12,13,14,15,16,17,18,19] [.P,.P,.P,.P,.P,.R,.R,.P,.P,.P,.R,.R,.P,.P,.P,.R,.R,.P,.P,.P] rfl rfl (by kernel_rfl) ?_)
       exact⟨rfl,_,rfl,_,rfl,aH.of_closed aL⟩
      ·rw[h1] at k1
       cases h2:decide (m≤s.last)
       ·repeat' (first|refine zB rfl (by first|exact b1|exact b2|exact b3|exact b4|exact h2) ?_|refine zI rfl la ?_|refine zA rfl ?_|refine aA ?_|refine aJ rfl ?_|refine aD rfl kn ?_|refine aD rfl kt ?_|refine aD rfl k1 ?_|refine aD rfl k2 ?_|refine aO mixed [0,1,2,3,4,5,6,7,8,9,10,11,12,13,14,15,16,17,18,19] [.P,.P,.P,.P,.P,.R,.R,.P,.P,.P,.R,.R,.P,.P,.P,.R,.R,.P,.P,.P] rfl rfl (by kernel_rfl) ?_)
        exact⟨rfl,_,rfl,_,rfl,aH.of_closed aL⟩
       ·cases h3:iT s.pins
        ·rw[h3] at kp
         repeat' (first|refine zB rfl (by first|exact b1|exact b2|exact b3|exact b4|exact h2) ?_|refine zI rfl la ?_|refine zA rfl ?_|refine aA ?_|refine aJ rfl ?_|refine aD rfl kn ?_|refine aD rfl kt ?_|refine aD rfl k1 ?_|refine aD rfl k2 ?_|refine aD rfl kp ?_|refine aO mixed [0,1,2,3,4,5,6,7,8,9,10,11,12,13,14,15,16,17,18,19] [.P,.P,.P,.P,.P,.R,.R,.P,.P,.P,.R,.R,.P,.P,.P,.R,.R,.P,.P,.P] rfl rfl (by kernel_rfl) ?_)
         exact⟨rfl,_,rfl,_,rfl,aH.of_closed aL⟩
        ·rw[h3] at kp
         cases h4:lS s.seen
         ·rw[h4] at kq
          repeat' (first|refine zB rfl (by first|exact b1|exact b2|exact b3|exact b4|exact h2) ?_|refine zI rfl la ?_|refine zA rfl ?_|refine aA ?_|refine aJ rfl ?_|refine aD rfl kn ?_|refine aD rfl kt ?_|refine aD rfl k1 ?_|refine aD rfl k2 ?_|refine aD rfl kp ?_|refine aD rfl kq ?_|refine aO mixed [0,1,2,3,4,5,6,7,8,9,10,11,12,13,14,15,16,17,18,19] [.P,.P,.P,.P,.P,.R,.R,.P,.P,.P,.R,.R,.P,.P,.P,.R,.R,.P,.P,.P] rfl rfl (by kernel_rfl) ?_)
          exact⟨rfl,_,rfl,_,rfl,aH.of_closed aL⟩
         ·rw[h4] at kq
          repeat' (first|refine zB rfl (by first|exact b1|exact b2|exact b3|exact b4|exact h2) ?_|refine zI rfl la ?_|refine zA rfl ?_|refine aA ?_|refine aJ rfl ?_|refine aD rfl kn ?_|refine aD rfl kt ?_|refine aD rfl k1 ?_|refine aD rfl k2 ?_|refine aD rfl kp ?_|refine aD rfl kq ?_|refine aO mixed [0,1,2,3,4,5,6,7,8,9,10,11,12,13,14,15,16,17,18,19] [.P,.P,.P,.P,.P,.R,.R,.P,.P,.P,.R,.R,.P,.P,.P,.R,.R,.P,.P,.P] rfl rfl (by kernel_rfl) ?_)
          exact⟨rfl,_,rfl,_,rfl,aH.of_closed aL⟩
     ·rw[decide_eq_false a5] at kn
      rw[show bT s=false by simp[bT,a5]]
      unfold Sg.av Sg.cells
      repeat' (first|refine zB rfl (by first|exact b1|exact b2|exact b3|exact b4) ?_|refine zI rfl la ?_|refine zA rfl ?_|refine aA ?_|refine aJ rfl ?_|refine aD rfl kn ?_)
      exact⟨rfl,_,rfl,_,rfl,aH.of_closed aL⟩
    ·have b4:decide ((200:Int) < (s.pairs.length:Int))=true:=decide_eq_true (by omega)
     rw[show bT s=false by simp[bT,a4]]
     unfold Sg.av Sg.cells
     repeat' (first|refine zB rfl (by first|exact b1|exact b2|exact b3|exact b4) ?_|refine zI rfl la ?_|refine zA rfl ?_|refine aA ?_|refine aJ rfl ?_)
     exact⟨rfl,_,rfl,_,rfl,aH.of_closed aL⟩
   ·have b3:decide (s.last≤1000000000)=false:=decide_eq_false a3
    rw[show bT s=false by simp[bT,a3]]
    unfold Sg.av Sg.cells
    repeat' (first|refine zB rfl (by first|exact b1|exact b2|exact b3) ?_|refine zA rfl ?_|refine aA ?_|refine aJ rfl ?_)
    exact⟨rfl,_,rfl,_,rfl,aH.of_closed aL⟩
  ·have b2:decide (s.mark≤s.last)=false:=decide_eq_false a2
   rw[show bT s=false by simp[bT,a2]]
   unfold Sg.av Sg.cells
   repeat' (first|refine zB rfl (by first|exact b1|exact b2) ?_|refine zA rfl ?_|refine aA ?_|refine aJ rfl ?_)
   exact⟨rfl,_,rfl,_,rfl,aH.of_closed aL⟩
 ·have b1:decide (0≤s.mark)=false:=decide_eq_false a1
  rw[show bT s=false by simp[bT,a1]]
  unfold Sg.av Sg.cells
  repeat' (first|refine zB rfl b1 ?_|refine zA rfl ?_|refine aA ?_|refine aJ rfl ?_)
  exact⟨rfl,_,rfl,_,rfl,aH.of_closed aL⟩
theorem a0s (s:Sg) (hs:gA s):aN Tryz.prog 55 [s.av] (.bool (bT s)):=by
 intro M
 refine aC aF Tryz.func55 rfl (by decide) (by simp[Tryz.f55]) ?_
 have hn:=hs.pairs
 have kn:=S6 s.pairs .none (by omega)
 have k1:=tG s.pairs (by omega) hs.vals
 have k2:=GZ s.pairs (by omega) hs.vals
 have kp:aN Tryz.prog 105 [bI s.pins .none] (.bool (iT s.pins)):=pX s.pins (by have:=hs.pins;omega)
 have kq:aN Tryz.prog 106 [bU s.seen .none] (.bool (lS s.seen)):=z8 s.seen (by have:=hs.seen;omega)
 have la:=aU Pr.av s.pairs
 unfold iQ at k1 k2
 by_cases a1:0≤s.mark
 ·have b1:decide (s.mark < 0)=false:=decide_eq_false (by omega)
  by_cases a2:s.mark≤s.last
  ·have b2:decide (s.last < s.mark)=false:=decide_eq_false (by omega)
   by_cases a3:s.last≤1000000000
   ·have b3:decide (1000000000 < s.last)=false:=decide_eq_false (by omega)
    by_cases a4:s.pairs.length≤200
    ·have b4:decide ((200:Int) < (s.pairs.length:Int))=false:=decide_eq_false (by omega)
     have e:bT s=((((decide (cJ s.pairs)&&eY s.pairs)&&decide (eO s.pairs≤s.last))&&iT s.pins)&&lS s.seen):=by simp[bT,a1,a2,a3,a4]
     rw[e]
     generalize eO s.pairs=m at*
     unfold Sg.av Sg.cells
     cases h0:decide (cJ s.pairs)
     ·rw[h0] at kn
      repeat' (first|refine zB rfl (by first|exact b1|exact b2|exact b3|exact b4) ?_|refine zI rfl la ?_|refine zA rfl ?_|refine aA ?_|refine aJ rfl ?_|refine aD rfl kn ?_|refine aO mixed [0,1,2,3,4,5,6,7,8,9,10,11,12,13,14,15,16,17,18,19,20,21,22,23,24,25,26] [.R,.R,.P,.P,.R,.R,.P,.P,.P,.R,.R,.P,.R,.R,.P,.P,.P,.R,.R,.P,.P,.P,.R,.R,.P,.P,.P] rfl rfl (by kernel_rfl) ?_)
      exact⟨rfl,_,rfl,rfl,rfl⟩
     ·rw[h0] at kn
      cases h1:eY s.pairs
      ·rw[h1] at k1
       repeat' (first|refine zB rfl (by first|exact b1|exact b2|exact b3|exact b4) ?_|refine zI rfl la ?_|refine zA rfl ?_|refine aA ?_|refine aJ rfl ?_|refine aD rfl kn ?_|refine aD rfl k1 ?_|refine aO mixed [0,1,2,3,4,5,6,7,8,9,10,11,12,13,14,15,16,17,18,19,20,21,22,23,24,25,26] [.R,.R,.P,.P,.R,.R,.P,.P,.P,.R,.R,.P,.R,.R,.P,.P,.P,.R,.R,.P,.P,.P,.R,.R,.P,.P,.P] rfl rfl (by kernel_rfl) ?_)
       exact⟨rfl,_,rfl,rfl,rfl⟩
      ·rw[h1] at k1
       cases h2:decide (m≤s.last)
       ·repeat' (first|refine zB rfl (by first|exact b1|exact b2|exact b3|exact b4|exact h2) ?_|refine zI rfl la ?_|refine zA rfl ?_|refine aA ?_|refine aJ rfl ?_|refine aD rfl kn ?_|refine aD rfl k1 ?_|refine aD rfl k2 ?_|refine aO mixed [0,1,2,3,4,5,6,7,8,9,10,11,12,13,14,15,16,17,18,19,20,21,22,23,24,25,26] [.R,.R,.P,.P,.R,.R,.P,.P,.P,.R,.R,.P,.R,.R,.P,.P,.P,.R,.R,.P,.P,.P,.R,.R,.P,.P,.P] rfl rfl (by kernel_rfl) ?_)
        exact⟨rfl,_,rfl,rfl,rfl⟩
       ·cases h3:iT s.pins
        ·rw[h3] at kp
         repeat' (first|refine zB rfl (by first|exact b1|exact b2|exact b3|exact b4|exact h2) ?_|refine zI rfl la ?_|refine zA rfl ?_|refine aA ?_|refine aJ rfl ?_|refine aD rfl kn ?_|refine aD rfl k1 ?_|refine aD rfl k2 ?_|refine aD rfl kp ?_|refine aO mixed [0,1,2,3,4,5,6,7,8,9,10,11,12,13,14,15,16,17,18,19,20,21,22,23,24,25,26] [.R,.R,.P,.P,.R,.R,.P,.P,.P,.R,.R,.P,.R,.R,.P,.P,.P,.R,.R,.P,.P,.P,.R,.R,.P,.P,.P] rfl rfl (by kernel_rfl) ?_)
         exact⟨rfl,_,rfl,rfl,rfl⟩
        ·rw[h3] at kp
         cases h4:lS s.seen
         ·rw[h4] at kq
          repeat' (first|refine zB rfl (by first|exact b1|exact b2|exact b3|exact b4|exact h2) ?_|refine zI rfl la ?_|refine zA rfl ?_|refine aA ?_|refine aJ rfl ?_|refine aD rfl kn ?_|refine aD rfl k1 ?_|refine aD rfl k2 ?_|refine aD rfl kp ?_|refine aD rfl kq ?_|refine aO mixed [0,1,2,3,4,5,6,7,8,9,10,11,12,13,14,15,16,17,18,19,20,21,22,23,24,25,26] [.R,.R,.P,.P,.R,.R,.P,.P,.P,.R,.R,.P,.R,.R,.P,.P,.P,.R,.R,.P,.P,.P,.R,.R,.P,.P,.P] rfl rfl (by kernel_rfl) ?_)
          exact⟨rfl,_,rfl,rfl,rfl⟩
         ·rw[h4] at kq
          repeat' (first|refine zB rfl (by first|exact b1|exact b2|exact b3|exact b4|exact h2) ?_|refine zI rfl la ?_|refine zA rfl ?_|refine aA ?_|refine aJ rfl ?_|refine aD rfl kn ?_|refine aD rfl k1 ?_|refine aD rfl k2 ?_|refine aD rfl kp ?_|refine aD rfl kq ?_|refine aO mixed [0,1,2,3,4,5,6,7,8,9,10,11,12,13,14,15,16,17,18,19,20,21,22,23,24,25,26] [.R,.R,.P,.P,.R,.R,.P,.P,.P,.R,.R,.P,.R,.R,.P,.P,.P,.R,.R,.P,.P,.P,.R,.R,.P,.P,.P] rfl rfl (by kernel_rfl) ?_)
          exact⟨rfl,_,rfl,rfl,rfl⟩
    ·have b4:decide ((200:Int) < (s.pairs.length:Int))=true:=decide_eq_true (by omega)
     rw[show bT s=false by simp[bT,a4]]
     unfold Sg.av Sg.cells
     repeat' (first|refine zB rfl (by first|exact b1|exact b2|exact b3|exact b4) ?_|refine zI rfl la ?_|refine zA rfl ?_|refine aA ?_|refine aJ rfl ?_)
     exact⟨rfl,_,rfl,rfl,rfl⟩
   ·have b3:decide (1000000000 < s.last)=true:=decide_eq_true (by omega)
    rw[show bT s=false by simp[bT,a3]]
    unfold Sg.av Sg.cells
    repeat' (first|refine zB rfl (by first|exact b1|exact b2|exact b3) ?_|refine zA rfl ?_|refine aA ?_|refine aJ rfl ?_)
    exact⟨rfl,_,rfl,rfl,rfl⟩
  ·have b2:decide (s.last < s.mark)=true:=decide_eq_true (by omega)
   rw[show bT s=false by simp[bT,a2]]
   unfold Sg.av Sg.cells
   repeat' (first|refine zB rfl (by first|exact b1|exact b2) ?_|refine zA rfl ?_|refine aA ?_|refine aJ rfl ?_)
   exact⟨rfl,_,rfl,rfl,rfl⟩
 ·have b1:decide (s.mark < 0)=true:=decide_eq_true (by omega)
  rw[show bT s=false by simp[bT,a1]]
  unfold Sg.av Sg.cells
  repeat' (first|refine zB rfl b1 ?_|refine zA rfl ?_|refine aA ?_|refine aJ rfl ?_)
  exact⟨rfl,_,rfl,rfl,rfl⟩
end Go.Proofs.YthnhbmlefiafaaaGreatDoor
