/- Parts of the proof, one behind the other. No further condition. -/
import Derived.Test.YthnhbmlefiafaaaGreatDoorK20
set_option linter.unusedVariables false
set_option linter.unusedSimpArgs false
set_option maxRecDepth 100000
set_option maxHeartbeats 8000000
namespace Go.Proofs.YthnhbmlefiafaaaGreatDoor
open Go.Ab
def CG (s:Sg):Bool:=S9 s.pairs||decide (80 < s.pins.length)||decide (80 < s.seen.length)
theorem KR (s:Sg) (h1:s.pairs.length < 4611686018427387904):aN Tryz.prog 17 [s.av] (.bool (CG s)):=by
 intro M
 refine aC aF Tryz.func17 rfl (by decide) (by simp[Tryz.f17]) ?_
 have kb:=a71 s.pairs .none h1
 have lb:=aU Pn.av s.pins
 have lc:=aU Sn.av s.seen
 unfold CG Sg.av Sg.cells bI bU
 cases h:S9 s.pairs
 ·rw[h] at kb
  by_cases h2:80 < s.pins.length
  ·have d1:decide ((80:Int) < (s.pins.length:Int))=true:=decide_eq_true (by omega)
   rw[decide_eq_true h2]
   repeat' (first|refine zB rfl d1 ?_|refine zI rfl lb ?_|refine zA rfl ?_|refine aA ?_|refine aJ rfl ?_|refine aD rfl kb ?_)
   exact⟨rfl,_,rfl,rfl,rfl⟩
  ·have d1:decide ((80:Int) < (s.pins.length:Int))=false:=decide_eq_false (by omega)
   rw[decide_eq_false h2]
   by_cases h3:80 < s.seen.length
   ·have d2:decide ((80:Int) < (s.seen.length:Int))=true:=decide_eq_true (by omega)
    rw[decide_eq_true h3]
    repeat' (first|refine zB rfl (by first|exact d1|exact d2) ?_|refine zI rfl (by first|exact lb|exact lc) ?_|refine zA rfl ?_|refine aA ?_|refine aJ rfl ?_|refine aD rfl kb ?_)
    exact⟨rfl,_,rfl,rfl,rfl⟩
   ·have d2:decide ((80:Int) < (s.seen.length:Int))=false:=decide_eq_false (by omega)
    rw[decide_eq_false h3]
    repeat' (first|refine zB rfl (by first|exact d1|exact d2) ?_|refine zI rfl (by first|exact lb|exact lc) ?_|refine zA rfl ?_|refine aA ?_|refine aJ rfl ?_|refine aD rfl kb ?_)
    exact⟨rfl,_,rfl,rfl,rfl⟩
 ·rw[h] at kb
  repeat' (first|refine zA rfl ?_|refine aA ?_|refine aJ rfl ?_|refine aD rfl kb ?_)
  exact⟨rfl,_,rfl,rfl,rfl⟩
structure LY (s:Sg):Prop where
 pairs:s.pairs.length≤80
 vals:∀p,p∈s.pairs→p.key.path.length≤200∧p.val.length≤300
 pins:s.pins.length≤80
 seen:s.seen.length≤80
theorem a6d (s t:Sg):((((decide (s.last=t.last)&&decide (s.mark=t.mark))&&decide (s.pairs=t.pairs))&&decide (s.pins=t.pins))&&decide (s.seen=t.seen))=decide (s=t):=by
 obtain⟨a,b,c,d,e⟩:=s
 obtain⟨f,g,h,i,j⟩:=t
 rw[Bool.eq_iff_iff]
 simp[and_assoc]
theorem I3 {s:Sg} (h:CG s=false):LY s:=by
 unfold CG at h
 simp only[Bool.or_eq_false_iff,decide_eq_false_iff_not] at h
 obtain⟨⟨h1,h2⟩,h3⟩:=h
 obtain⟨h4,h5⟩:=a1n h1
 exact⟨h4,h5,by omega,by omega⟩
theorem LY.small {s:Sg} (h:LY s):gA s:=⟨by have:=h.pairs;omega,fun p hp=>by have:=h.vals p hp;omega,by have:=h.pins;omega,by have:=h.seen;omega⟩
structure yV (s:Sg):Prop where
 pairs:s.pairs.length < 1000000
 pins:s.pins.length < 1000000
 seen:s.seen.length < 1000000
theorem qD (s t:Sg) (hs:yV s) (ht:yV t):aN Tryz.prog 21 [s.av,t.av] (.bool (decide (s=t))):=by
 intro M
 refine aC aF Tryz.func21 rfl (by decide) (by simp[Tryz.f21]) ?_
 have k1:=a2h s.pairs t.pairs .none .none hs.pairs ht.pairs
 have k2:=NQ s.pins t.pins .none .none hs.pins ht.pins
 have k3:=JD s.seen t.seen .none .none hs.seen ht.seen
 rw[←a6d]
 unfold Sg.av Sg.cells
 cases h1:decide (s.last=t.last)
 ·repeat' (first|refine zB rfl h1 ?_|refine zA rfl ?_|refine aA ?_|refine aJ rfl ?_)
  exact⟨rfl,_,rfl,rfl,rfl⟩
 ·cases h2:decide (s.mark=t.mark)
  ·repeat' (first|refine zB rfl (by first|exact h1|exact h2) ?_|refine zA rfl ?_|refine aA ?_|refine aJ rfl ?_)
   exact⟨rfl,_,rfl,rfl,rfl⟩
  ·cases h3:decide (s.pairs=t.pairs)
   ·rw[h3] at k1
    repeat' (first|refine zB rfl (by first|exact h1|exact h2) ?_|refine zA rfl ?_|refine aA ?_|refine aJ rfl ?_|refine aD rfl k1 ?_)
    exact⟨rfl,_,rfl,rfl,rfl⟩
   ·rw[h3] at k1
    cases h4:decide (s.pins=t.pins)
    ·rw[h4] at k2
     repeat' (first|refine zB rfl (by first|exact h1|exact h2) ?_|refine zA rfl ?_|refine aA ?_|refine aJ rfl ?_|refine aD rfl k1 ?_|refine aD rfl k2 ?_)
     exact⟨rfl,_,rfl,rfl,rfl⟩
    ·rw[h4] at k2
     cases h5:decide (s.seen=t.seen)
     ·rw[h5] at k3
      repeat' (first|refine zB rfl (by first|exact h1|exact h2) ?_|refine zA rfl ?_|refine aA ?_|refine aJ rfl ?_|refine aD rfl k1 ?_|refine aD rfl k2 ?_|refine aD rfl k3 ?_)
      exact⟨rfl,_,rfl,rfl,rfl⟩
     ·rw[h5] at k3
      repeat' (first|refine zB rfl (by first|exact h1|exact h2) ?_|refine zA rfl ?_|refine aA ?_|refine aJ rfl ?_|refine aD rfl k1 ?_|refine aD rfl k2 ?_|refine aD rfl k3 ?_)
      exact⟨rfl,_,rfl,rfl,rfl⟩
theorem a3e (l:List Pr) (hl:l.length < 1000000):aN Tryz.prog 46 [.sl 3 (l.map Pr.av) .none] (.sl 3 (l.map Pr.av) .none):=by
 refine aT (aY (bO l)) (bO l) ?_
 refine aC aF Tryz.func46 rfl (by decide) (by simp[Tryz.f46]) ?_
 have la:=aU Pr.av l
 have hc:=bO l
 repeat' (first|refine zA rfl ?_|refine aA ?_|refine aJ rfl ?_|refine zQ rfl ?_)
 exact⟨rfl,_,rfl,_,rfl,aH.untag hc⟩
theorem gA.len {s:Sg} (h:gA s):yV s:=⟨by have:=h.pairs;omega,by have:=h.pins;omega,by have:=h.seen;omega⟩
theorem fX.len {s:Sg} (h:fX s):yV s:=⟨by have:=h.many;omega,by have:=h.pinsN;omega,by have:=h.seenN;omega⟩
theorem a2o (l:List Pn) (hl:l.length < 1000000):aN Tryz.prog 47 [bI l .none] (bI l .none):=by
 refine aT (aY (bP l (.inl rfl))) (bP l (.inl rfl)) ?_
 refine aC aF Tryz.func47 rfl (by decide) (by simp[Tryz.f47]) ?_
 have la:=aU Pn.av l
 have hc:=bP l (t:=.none) (.inl rfl)
 unfold bI at*
 repeat' (first|refine zA rfl ?_|refine aA ?_|refine aJ rfl ?_|refine zQ rfl ?_)
 exact⟨rfl,_,rfl,_,rfl,aH.untag hc⟩
theorem a1u (l:List Sn) (hl:l.length < 1000000):aN Tryz.prog 48 [bU l .none] (bU l .none):=by
 refine aT (aY (bQ l (.inl rfl))) (bQ l (.inl rfl)) ?_
 refine aC aF Tryz.func48 rfl (by decide) (by simp[Tryz.f48]) ?_
 have la:=aU Sn.av l
 have hc:=bQ l (t:=.none) (.inl rfl)
 unfold bU at*
 repeat' (first|refine zA rfl ?_|refine aA ?_|refine aJ rfl ?_|refine zQ rfl ?_)
 exact⟨rfl,_,rfl,_,rfl,aH.untag hc⟩
theorem J2 (s:Sg) (hs:yV s):aN Tryz.prog 18 [s.av] s.av:=by
 refine aT (aY (bX s)) (bX s) ?_
 refine aC aF Tryz.func18 rfl (by decide) (by simp[Tryz.f18]) ?_
 have k1:=a3e s.pairs hs.pairs
 have k2:=a2o s.pins hs.pins
 have k3:=a1u s.seen hs.seen
 have hc:=bX s
 unfold Sg.av Sg.cells at*
 repeat' (first|refine zA rfl ?_|refine aA ?_|refine aJ rfl ?_|refine aD rfl k1 ?_|refine aD rfl k2 ?_|refine aD rfl k3 ?_|refine aO mixed [0,1,2,3,4,5,6,7,8,9,10,11,12,13,14] [.R,.R,.R,.R,.R,.R,.P,.R,.R,.P,.R,.R,.P,.P,.E] rfl rfl (by kernel_rfl) ?_)
 exact⟨rfl,_,rfl,_,rfl,aH.of_closed hc⟩
noncomputable def PD (s:Sg) (t:Tr):Sg:=⟨s.last,s.mark,t.all,s.pins,s.seen⟩
theorem WT (s:Sg) (t:Tr) (hs:t.all.length < 10000000):aN Tryz.prog 54 [s.av,t.av] (PD s t).av:=by
 refine aT (aZ (bX s) (bL t)) (bX _) ?_
 refine aC aF Tryz.func54 rfl (by decide) (by simp[Tryz.f54]) ?_
 have ka:=tQ t hs
 have hc:=bX (PD s t)
 unfold PD Sg.av Sg.cells at*
 unfold Tr.av at ka ⊢
 generalize t.all=A at*
 repeat' (first|refine dV 2 aF rfl ?_|refine zA rfl ?_|refine aA ?_|refine aJ rfl ?_|refine aD rfl ka ?_)
 exact⟨rfl,_,rfl,_,rfl,aH.of_closed hc⟩
def cG (s:Int) (p:Pn):Bool:=decide (p.session=s)
def PL (l:List Pn) (s:Int):Int:=((l.find? (cG s)).map Pn.at_).getD 0
theorem A1 {α:Type} {p:α→Bool}:∀{l:List α} {i:Nat} {x:α},(∀(j:Nat) y,j < i→l[j]? =some y→p y=false)→l[i]? =some x→p x=true→l.find? p=some x
 |[],i,x,_,h,_=>by simp at h
 |a::r,0,x,_,h,hp=>by
  cases h
  simp[List.find?,hp]
 |a::r,i+1,x,hn,h,hp=>by
  have h0:=hn 0 a (Nat.zero_lt_succ _) rfl
  rw[List.find?_cons_of_neg (by simp[h0])]
  exact A1 (i:=i) (fun j y hj hy=>hn (j+1) y (Nat.succ_lt_succ hj) (by simpa using hy)) (by simpa using h) hp
theorem iW {α:Type} (l:List α) (p:α→Bool):(l.any p=false∧oQ l p=-1∧l.find? p=none)∨∃(i:Nat) (x:α),l[i]? =some x∧p x=true∧(∀(j:Nat) y,j < i→l[j]? =some y→p y=false)∧oQ l p=(i:Int)∧l.find? p=some x∧l.any p=true:=by
 cases h:l.any p
 ·rw[List.any_eq_false] at h
  refine .inl ⟨rfl,l6 fun j x hx=>by simpa using h x (List.mem_of_getElem? hx),?_⟩
  rw[List.find?_eq_none]
  intro x hx
  simpa using h x hx
 ·rw[List.any_eq_true] at h
  obtain⟨x,hx,hp⟩:=h
  have h1:l.findIdx p < l.length:=List.findIdx_lt_length_of_exists ⟨x,hx,hp⟩
  have h2:l[l.findIdx p]? =some l[l.findIdx p]:=List.getElem?_eq_getElem h1
  have h3:p l[l.findIdx p]=true:=List.findIdx_getElem (w:=h1)
  have h4:∀(j:Nat) y,j < l.findIdx p→l[j]? =some y→p y=false:=fun j y hj hy=>by
   obtain⟨q1,rfl⟩:=List.getElem?_eq_some_iff.1 hy
   have:=List.not_of_lt_findIdx hj
   simpa using this
  exact .inr ⟨_,_,h2,h3,h4,pM h4 h2 h3,A1 h4 h2 h3,rfl⟩
theorem a4q (s:Int) (p:Pn):aN Tryz.prog 202 [.int .i64 s,p.av] (.bool (cG s p)):=by
 intro M
 refine aC aF Tryz.func202 rfl (by decide) (by simp[Tryz.f202]) ?_
 unfold cG
 repeat' (first|refine zA rfl ?_|refine aA ?_|refine aJ rfl ?_)
 exact⟨rfl,_,rfl,rfl,rfl⟩
theorem MI (l:List Pn) (tg:eI) (hl:l.length < 1000000) (g:FuncId) (fi ca:List AV) (p:Pn→Bool) (hp:∀x,x∈l→aN Tryz.prog g (fi++[x.av]++ca) (.bool (p x))):aN Tryz.prog 203 [.sl 2 (l.map Pn.av) tg,.fn (.func g) fi ca] (.int .i64 (oQ l p)):=by
 intro M
 refine aC aF Tryz.func203 rfl (by decide) (by simp[Tryz.f203]) ?_
 have la:=aU Pn.av l
 repeat' (first|refine zI rfl la ?_|refine zA rfl ?_|refine aA ?_|refine aJ rfl ?_)
 refine aX l.length (fun i f N=>N=M∧(∀(j:Nat) y,j < i→l[j]? =some y→p y=false)∧f=⟨[(0,.sl 2 (l.map Pn.av) tg),(1,.fn (.func g) fi ca),(7,.int .i64 (l.length:Int)),(8,.int .i64 (i:Int))],[]⟩) (Nat.zero_le _) ⟨rfl,fun j y hj=>absurd hj (Nat.not_lt_zero _),rfl⟩ (aM.le ?_ (aI.le_refl _)) ?_
 ·skip
  repeat (refine AF.le_cons rfl ?_)
  exact AF.le_nil rfl
 rintro i f N hi ⟨rfl,hno,rfl⟩
 by_cases h1:i < l.length
 ·have d1:decide ((i:Int) < (l.length:Int))=true:=decide_eq_true (by omega)
  have hx:l[i]? =some l[i]:=List.getElem?_eq_getElem h1
  have fi:=aQ (i:=i) (by omega)
  have hk:=hp l[i] (List.getElem_mem h1)
  generalize l[i]=x at hx hk
  cases hpx:p x
  ·rw[hpx] at hk
   repeat' (first|refine zB rfl d1 ?_|refine zA rfl ?_|refine aA ?_|refine aJ rfl ?_)
   refine zX rfl (c7 hx) ?_
   repeat' (first|refine zI rfl fi ?_|refine zA rfl ?_|refine aA ?_|refine aJ rfl ?_|refine aD rfl hk ?_)
   refine⟨h1,_,_,⟨rfl,?_,rfl⟩,aM.le ?_ (aI.le_refl _)⟩
   ·intro j y hj hy
    by_cases hji:j=i
    ·subst hji
     rw[hx] at hy
     cases hy
     exact hpx
    ·exact hno j y (by omega) hy
   ·skip
    repeat (refine AF.le_cons rfl ?_)
    exact AF.le_nil rfl
  ·rw[hpx] at hk
   repeat' (first|refine zB rfl d1 ?_|refine zA rfl ?_|refine aA ?_|refine aJ rfl ?_)
   refine zX rfl (c7 hx) ?_
   repeat' (first|refine zA rfl ?_|refine aA ?_|refine aJ rfl ?_|refine aD rfl hk ?_)
   exact⟨rfl,_,rfl,by rw[pM hno hx hpx];rfl,rfl⟩
 ·have d1:decide ((i:Int) < (l.length:Int))=false:=decide_eq_false (by omega)
  obtain rfl:i=l.length:=by omega
  repeat' (first|refine zB rfl d1 ?_|refine zA rfl ?_|refine aA ?_|refine aJ rfl ?_)
  exact⟨rfl,_,rfl,by rw[l6 (fun j y hy=>hno j y (List.getElem?_eq_some_iff.1 hy).1 hy)];rfl,rfl⟩
theorem AQ (l:List Pn) (tg:eI) (hl:l.length < 1000000) (s:Int):aN Tryz.prog 178 [bI l tg,.int .i64 s] (.int .i64 (oQ l (cG s))):=by
 intro M
 refine aC aF Tryz.func178 rfl (by decide) (by simp[Tryz.f178]) ?_
 have k:=MI l tg hl 202 [.int .i64 s] [] (cG s) (fun x _=>a4q s x)
 unfold bI
 repeat' (first|refine zA rfl ?_|refine aA ?_|refine aJ rfl ?_|refine aD rfl k ?_)
 exact⟨rfl,_,rfl,rfl,rfl⟩
def pfA (l:List Pn) (s:Int):AV:=.tup [.int .i64 (PL l s),.bool (l.any (cG s))]
theorem a4z (l:List Pn) (tg:eI) (hl:l.length < 1000000) (s:Int):aN Tryz.prog 144 [bI l tg,.int .i64 s] (pfA l s):=by
 intro M
 refine aC aF Tryz.func144 rfl (by decide) (by simp[Tryz.f144]) ?_
 have k:=AQ l tg hl s
 unfold pfA PL
 unfold bI at*
 rcases iW l (cG s) with ⟨e1,e2,e3⟩|⟨i,x,hx,_,_,e2,e3,e1⟩
 ·rw[e2] at k
  rw[e1,e3]
  have d1:decide ((-1:Int) < 0)=true:=rfl
  repeat' (first|refine zB rfl d1 ?_|refine zA rfl ?_|refine aA ?_|refine aJ rfl ?_|refine aD rfl k ?_)
  exact⟨rfl,_,rfl,rfl,rfl⟩
 ·rw[e2] at k
  rw[e1,e3]
  have d1:decide ((i:Int) < 0)=false:=decide_eq_false (by omega)
  repeat' (first|refine zB rfl d1 ?_|refine zA rfl ?_|refine aA ?_|refine aJ rfl ?_|refine aD rfl k ?_|refine zX rfl (c7 hx) ?_)
  exact⟨rfl,_,rfl,rfl,rfl⟩
theorem P9 (l:List Pn) (tg:eI) (hl:l.length < 1000000) (s:Int):aN Tryz.prog 157 [bI l tg,.int .i64 s] (pfA l s):=by
 intro M
 refine aC aF Tryz.func157 rfl (by decide) (by simp[Tryz.f157]) ?_
 have la:=aU Pn.av l
 unfold pfA PL bI
 repeat' (first|refine zA rfl ?_|refine aA ?_|refine aJ rfl ?_)
 refine aX l.length (fun i f N=>N=M∧(∀(j:Nat) y,j < i→l[j]? =some y→cG s y=false)∧f=⟨[(0,.sl 2 (l.map Pn.av) tg),(1,.int .i64 s),(6,.int .i64 (i:Int))],[]⟩) (Nat.zero_le _) ⟨rfl,(fun j y hj=>absurd hj (Nat.not_lt_zero _)),rfl⟩ (aM.le ?_ (aI.le_refl _)) ?_
 ·skip
  repeat (refine AF.le_cons rfl ?_)
  exact AF.le_nil rfl
 rintro i f N hi ⟨rfl,hinv,rfl⟩
 by_cases h1:i < l.length
 ·have d1:decide ((i:Int) < (l.length:Int))=true:=by simp;omega
  have hx:l[i]? =some l[i]:=List.getElem?_eq_getElem h1
  have fi:=aQ (i:=i) (by omega)
  have ht:=b7 hx
  have hm:=List.getElem_mem h1
  generalize l[i]=x at hx ht hm
  by_cases h2:x.session=s
  ·have d2:decide (x.session=s)=true:=decide_eq_true h2
   have e3:=A1 (p:=cG s) hinv hx (by simp[cG,h2])
   rw[e3,List.any_eq_true.2 ⟨x,hm,by simp[cG,h2]⟩]
   repeat' (first|refine zB rfl (by first|exact d1|exact d2) ?_|refine zI rfl la ?_|refine zA rfl ?_|refine aA ?_|refine aJ rfl ?_|refine zX rfl (c7 hx) ?_)
   exact⟨rfl,_,rfl,rfl,rfl⟩
  ·have d2:decide (x.session=s)=false:=decide_eq_false h2
   repeat' (first|refine zB rfl (by first|exact d1|exact d2) ?_|refine zI rfl (by first|exact la|exact fi) ?_|refine zA rfl ?_|refine aA ?_|refine aJ rfl ?_|refine zX rfl (c7 hx) ?_)
   refine⟨h1,_,_,⟨rfl,?_,rfl⟩,aM.le ?_ (aI.le_refl _)⟩
   ·intro j y hj hy
    by_cases hji:j=i
    ·subst hji
     rw[hx] at hy
     cases hy
     simp[cG,h2]
    ·exact hinv j y (by omega) hy
   ·skip
    repeat (refine AF.le_cons rfl ?_)
    exact AF.le_nil rfl
 ·have d1:decide ((i:Int) < (l.length:Int))=false:=by simp;omega
  obtain rfl:i=l.length:=by omega
  have e1:l.any (cG s)=false:=by
   rw[List.any_eq_false]
   intro x hx
   obtain⟨j,hj⟩:=List.mem_iff_getElem?.1 hx
   simp[hinv j x (List.getElem?_eq_some_iff.1 hj).1 hj]
  have e2:l.find? (cG s)=none:=by
   rw[List.find?_eq_none]
   intro x hx
   rw[List.any_eq_false] at e1
   exact e1 x hx
  rw[e1,e2]
  repeat' (first|refine zB rfl d1 ?_|refine zI rfl la ?_|refine zA rfl ?_|refine aA ?_|refine aJ rfl ?_)
  exact⟨rfl,_,rfl,rfl,rfl⟩
def mn (a b:Int):Int:=if b < a then b else a
def mx (a b:Int):Int:=if a < b then b else a
theorem r4 (a b:Int):mn a b=min a b:=by unfold mn;split<;>omega
theorem a4w (a b:Int):mx a b=max a b:=by unfold mx;split<;>omega
def cB (a:Int) (l:List Pn):Int:=l.foldl (fun a p=>mn a p.at_) a
theorem t6 {a:Int} {l:List Pn} {i:Nat} {x:Pn} (h:l[i]? =some x):cB a (l.take (i+1))=mn (cB a (l.take i)) x.at_:=by
 unfold cB
 rw[b7 h,List.foldl_append]
 rfl
theorem yY:∀(l:List Pn) (a b:Int),cB (mn a b) l=mn a (cB b l)
 |[],_,_=>rfl
 |p::r,a,b=>by
  have h1:cB (mn a b) (p::r)=cB (mn (mn a b) p.at_) r:=rfl
  have h2:cB b (p::r)=cB (mn b p.at_) r:=rfl
  rw[h1,h2,←yY r a]
  congr 1
  rw[r4,r4,r4,r4]
  omega
def eA (w b last:Int) (l:List Pn):Int:=mx w (cB (mn b last) l)
theorem YK (l:List Pn) (tg:eI) (htg:tg=.none∨tg=.full) (hl:l.length < 1000000):aN Tryz.prog 184 [bI l tg] (iA (l.map Pn.at_) .none):=by
 refine aT (aY (bP l htg)) (i9 _ (.inl rfl)) ?_
 refine aC aF Tryz.func184 rfl (by decide) (by simp[Tryz.f184]) ?_
 have la:=aU Pn.av l
 have hcp:=bP l htg
 have hc:=i9 (l.map Pn.at_) (t:=.none) (.inl rfl)
 unfold bI at*
 repeat' (first|refine zI rfl la ?_|refine zA rfl ?_|refine aA ?_|refine aJ rfl ?_)
 refine aX l.length (fun i f N=>∃g,N=tokM g∧f=⟨[(3,iA ((l.take i).map Pn.at_) (.tok 0 g)),(6,.sl 2 (l.map Pn.av) tg),(7,.int .i64 (l.length:Int)),(8,.int .i64 (i:Int))],[]⟩) (Nat.zero_le _) ⟨0,rfl,rfl⟩ ((aM.tok 3 rfl (sz':=1) (.inr rfl)).trans (aM.le ?_ (cK rfl rfl))) ?_
 ·unfold iA
  repeat (refine AF.le_cons rfl ?_)
  exact AF.le_nil rfl
 rintro i f N hi ⟨g,rfl,rfl⟩
 unfold iA
 have lt:=aU (fun n=>AV.int .i64 n) ((l.take i).map Pn.at_)
 have lt2:((l.take i).map Pn.at_).length≤i:=by rw[List.length_map,List.length_take];omega
 by_cases g1:i < l.length
 ·have d1:decide ((i:Int) < (l.length:Int))=true:=decide_eq_true (by omega)
  have hx:l[i]? =some l[i]:=List.getElem?_eq_getElem g1
  have fi:=aQ (i:=i) (by omega)
  have ht:=b7 hx
  generalize l[i]=x at hx ht
  repeat' (first|refine zB rfl d1 ?_|refine zI rfl fi ?_|refine zA rfl ?_|refine aA ?_|refine aJ rfl ?_|refine zX rfl (c7 hx) ?_|refine zR rfl ?_|refine zP rfl rfl ?_)
  refine⟨g1,⟨[(3,iA ((l.take (i+1)).map Pn.at_) (.tok 0 (g+1))),(6,.sl 2 (l.map Pn.av) tg),(7,.int .i64 (l.length:Int)),(8,.int .i64 ((i+1:Nat):Int))],[]⟩,tokM (g+1),⟨g+1,rfl,rfl⟩,aM.cut (k:=1) (l:=(tokM (g+1)).objs) (Nat.zero_le 1) (by show 1≤2;omega) rfl ⟨?_,?_,?_,?_,trivial⟩ ⟨by decide,rfl,trivial⟩⟩
  ·rw[ht]
   unfold iA
   rw[List.map_append,List.map_append]
   refine aH.tok (by decide) ?_
   intro y hy c hc
   have:∃n,y=.int .i64 n:=by
    rcases List.mem_append.1 hy with hy|hy
    ·obtain⟨n,_,rfl⟩:=List.mem_map.1 hy
     exact⟨n,rfl⟩
    ·simp at hy
     exact⟨_,hy⟩
   obtain⟨n,rfl⟩:=this
   exact aY aB c hc
  ·exact aH.of_closed hcp
  ·exact aH.of_closed aB
  ·exact aH.of_closed aB
 ·have d1:decide ((i:Int) < (l.length:Int))=false:=decide_eq_false (by omega)
  obtain rfl:i=l.length:=by omega
  rw[List.take_length]
  unfold iA at hc
  repeat' (first|refine zB rfl d1 ?_|refine zA rfl ?_|refine aA ?_|refine aJ rfl ?_)
  exact⟨rfl,_,rfl,_,rfl,aH.untag hc⟩
theorem UC (a:Int) (l:List Pn) (hl:l.length < 1000000):aN Tryz.prog 183 [.int .i64 a,iA (l.map Pn.at_) .none] (.int .i64 (cB a l)):=by
 intro M
 refine aC aF Tryz.func183 rfl (by decide) (by simp[Tryz.f183]) ?_
 have la:(((l.map Pn.at_).map fun n=>AV.int .i64 n).length:Int)=(l.length:Int):=by simp
 unfold iA
 repeat' (first|refine zI rfl la ?_|refine zA rfl ?_|refine aA ?_|refine aJ rfl ?_)
 refine aX l.length (fun i f N=>N=M∧(True)∧f=⟨[(0,.int .i64 (cB a (l.take i))),(7,.sl 1 ((l.map Pn.at_).map fun n=>AV.int .i64 n) .none),(8,.int .i64 (l.length:Int)),(9,.int .i64 (i:Int))],[]⟩) (Nat.zero_le _) ⟨rfl,trivial,rfl⟩ (aM.le ?_ (aI.le_refl _)) ?_
 ·skip
  repeat (refine AF.le_cons rfl ?_)
  exact AF.le_nil rfl
 rintro i f N hi ⟨rfl,hinv,rfl⟩
 by_cases h1:i < l.length
 ·have d1:decide ((i:Int) < (l.length:Int))=true:=by simp;omega
  have hx:l[i]? =some l[i]:=List.getElem?_eq_getElem h1
  have fi:=aQ (i:=i) (by omega)
  have ht:=b7 hx
  have hm:=List.getElem_mem h1
  generalize l[i]=x at hx ht hm
  have hx2:(l.map Pn.at_)[i]? =some x.at_:=by rw[List.getElem?_map,hx];rfl
  have hmin:(if x.at_ < cB a (l.take i) then x.at_ else cB a (l.take i))=cB a (l.take (i+1)):=by rw[t6 hx];rfl
  repeat' (first|refine zB rfl d1 ?_|refine zI rfl (by first|exact fi|exact hmin) ?_|refine zA rfl ?_|refine aA ?_|refine aJ rfl ?_|refine zX rfl (c7 hx2) ?_)
  refine⟨h1,_,_,⟨rfl,trivial,rfl⟩,aM.le ?_ (aI.le_refl _)⟩
  repeat (refine AF.le_cons rfl ?_)
  exact AF.le_nil rfl
 ·have d1:decide ((i:Int) < (l.length:Int))=false:=by simp;omega
  obtain rfl:i=l.length:=by omega
  rw[List.take_length]
  repeat' (first|refine zB rfl d1 ?_|refine zA rfl ?_|refine aA ?_|refine aJ rfl ?_)
  exact⟨rfl,_,rfl,rfl,rfl⟩
theorem UQ (w b last:Int) (l:List Pn) (tg:eI) (htg:tg=.none∨tg=.full) (hl:l.length < 1000000):aN Tryz.prog 146 [.int .i64 w,.int .i64 b,.int .i64 last,bI l tg] (.int .i64 (eA w b last l)):=by
 intro M
 refine aC aF Tryz.func146 rfl (by decide) (by simp[Tryz.f146]) ?_
 have k1:=YK l tg htg hl
 have k2:=UC (mn b last) l hl
 have h1:(if last < b then last else b)=mn b last:=rfl
 have h2:(if w < cB (mn b last) l then cB (mn b last) l else w)=eA w b last l:=rfl
 unfold iA bI at*
 repeat' (first|refine zI rfl (by first|exact h1|exact h2) ?_|refine zA rfl ?_|refine aA ?_|refine aJ rfl ?_|refine aD rfl k1 ?_|refine aD rfl k2 ?_)
 exact⟨rfl,_,rfl,rfl,rfl⟩
def yG:List Pn→AV
 |[]=>.tup [.int .i64 0,.bool false]
 |p::r=>.tup [.int .i64 (cB p.at_ r),.bool true]
theorem SZ (l:List Pn) (tg:eI) (hl:l.length < 1000000):aN Tryz.prog 189 [bI l tg] (yG l):=by
 intro M
 refine aC aF Tryz.func189 rfl (by decide) (by simp[Tryz.f189]) ?_
 have la:=aU Pn.av l
 unfold bI
 cases l with
 |nil=>
  unfold yG
  repeat' (first|refine zA rfl ?_|refine aA ?_|refine aJ rfl ?_)
  exact⟨rfl,_,rfl,rfl,rfl⟩
 |cons p r=>
  have d0:decide ((((p::r).length:Nat):Int)=0)=false:=decide_eq_false (by simp;omega)
  have hp:(p::r)[0]? =some p:=rfl
  repeat' (first|refine zB rfl d0 ?_|refine zI rfl la ?_|refine zA rfl ?_|refine aA ?_|refine aJ rfl ?_|refine zX rfl (ixZ rfl hp) ?_)
  refine aX r.length (fun i f N=>N=M∧f=⟨[(0,.sl 2 ((p::r).map Pn.av) tg),(4,.int .i64 (cB p.at_ (r.take i))),(5,.int .i64 ((i+1:Nat):Int))],[]⟩) (Nat.zero_le _) ⟨rfl,rfl⟩ (aM.le ?_ (aI.le_refl _)) ?_
  ·skip
   repeat (refine AF.le_cons rfl ?_)
   exact AF.le_nil rfl
  rintro i f N hi ⟨rfl,rfl⟩
  by_cases g1:i < r.length
  ·have d1:decide (((i+1:Nat):Int) < (((p::r).length:Nat):Int))=true:=decide_eq_true (by simp;omega)
   have hx:r[i]? =some r[i]:=List.getElem?_eq_getElem g1
   have hl2:r.length+1 < 1000000:=by simpa using hl
   have fi:=aQ (i:=i+1) (by omega)
   generalize r[i]=x at hx
   have hx2:(p::r)[i+1]? =some x:=hx
   have hmin:(if x.at_ < cB p.at_ (r.take i) then x.at_ else cB p.at_ (r.take i))=cB p.at_ (r.take (i+1)):=by rw[t6 hx];rfl
   repeat' (first|refine zB rfl d1 ?_|refine zI rfl (by first|exact la|exact fi|exact hmin) ?_|refine zA rfl ?_|refine aA ?_|refine aJ rfl ?_|refine zX rfl (c7 hx2) ?_)
   refine⟨g1,_,_,⟨rfl,rfl⟩,aM.le ?_ (aI.le_refl _)⟩
   repeat (refine AF.le_cons rfl ?_)
   exact AF.le_nil rfl
  ·have d1:decide (((i+1:Nat):Int) < (((p::r).length:Nat):Int))=false:=decide_eq_false (by simp;omega)
   obtain rfl:i=r.length:=by omega
   rw[List.take_length]
   unfold yG
   repeat' (first|refine zB rfl d1 ?_|refine zI rfl la ?_|refine zA rfl ?_|refine aA ?_|refine aJ rfl ?_)
   exact⟨rfl,_,rfl,rfl,rfl⟩
theorem RM (w b last:Int) (p:Pn) (r:List Pn):eA w b last (p::r)=mx w (mn (mn b last) (cB p.at_ r)):=by
 unfold eA
 congr 1
 have:cB (mn b last) (p::r)=cB (mn (mn b last) p.at_) r:=rfl
 rw[this,yY]
theorem SF (w b last:Int) (l:List Pn) (tg:eI) (hl:l.length < 1000000):aN Tryz.prog 159 [.int .i64 w,.int .i64 b,.int .i64 last,bI l tg] (.int .i64 (eA w b last l)):=by
 intro M
 refine aC aF Tryz.func159 rfl (by decide) (by simp[Tryz.f159]) ?_
 have k1:=SZ l tg hl
 have h1:(if last < b then last else b)=mn b last:=rfl
 cases l with
 |nil=>
  have h2:(if w < mn b last then mn b last else w)=eA w b last []:=rfl
  unfold yG bI at*
  repeat' (first|refine zI rfl (by first|exact h1|exact h2) ?_|refine zA rfl ?_|refine aA ?_|refine aJ rfl ?_|refine aD rfl k1 ?_)
  exact⟨rfl,_,rfl,rfl,rfl⟩
 |cons p r=>
  have h2:(if cB p.at_ r < mn b last then cB p.at_ r else mn b last)=mn (mn b last) (cB p.at_ r):=rfl
  have h3:(if w < mn (mn b last) (cB p.at_ r) then mn (mn b last) (cB p.at_ r) else w)=eA w b last (p::r):=(RM w b last p r).symm
  unfold yG bI at*
  repeat' (first|refine zI rfl (by first|exact h1|exact h2|exact h3) ?_|refine zA rfl ?_|refine aA ?_|refine aJ rfl ?_|refine aD rfl k1 ?_)
  exact⟨rfl,_,rfl,rfl,rfl⟩
end Go.Proofs.YthnhbmlefiafaaaGreatDoor
namespace Go.Ab
open Go.RowKit
section
variable {P:Program} {τ:Tab} {ops:Array Oper} {cls:Nat→fZ} {Q:AX→AF→aI→Prop} {ds:List bH} {ls:List Nat} {i:Nat} {o:Oper} {t:List (Nat×AV)} {M:aI}
theorem a16 (hτ:TabOK P τ) {d:Nat} (hi:ops[i]? =some o) (hw:aV ops ⟨t,ds⟩ o=some true) (hd:o.dst=some d) (hc:qH (cls i)=true) {ty e:TypeId} {X I:Operand} (ho:o.op=.indexAddr ty X I) {id off n cap sz:Nat} {l:List AV} {k:IntKind} {j:Int}
  (hX:AF.ev ⟨t,ds⟩ X=.osl id off n cap sz) (hI:AF.ev ⟨t,ds⟩ I=.int k j) {ti ei:TI} (ht:aK τ ty=some ti) (hk:ti.k=.slice e) (he:aK τ e=some ei) (hsz:sz=ei.size) (hM:M.get id=some (.cells l)) (h0:0≤j) (hj:j < n)
  (h:DW P ops cls Q ds ls ((d,.ptr id (off+j.toNat*sz))::t) M):DW P ops cls Q ds (i::ls) t M:=
 kY hi hw hd hc (by rw[ho];exact B0 hτ ht hk he hX hM hI h0 hj hsz) h
end
end Go.Ab
namespace Go.Ab
open Go.RowKit
def LQ (M:aI) (sz:Nat) (x:AV) (m:Nat) (cs:List AV):Prop:=
 (∃ys t,x=.sl sz ys t∧m=ys.length∧cs=b9 ys∧∀y,y∈ys→y.cells.length=sz)∨
 (∃id off cap l,x=.osl id off m cap sz∧M.get id=some (.cells l)∧off+m*sz≤l.length∧cs=(l.drop off).take (m*sz))
theorem LQ.len {M:aI} {sz:Nat} {x:AV} {m:Nat} {cs:List AV} (h:LQ M sz x m cs):cs.length=m*sz:=by
 rcases h with ⟨ys,t,rfl,rfl,rfl,h⟩|⟨id,off,cap,l,rfl,h1,h2,rfl⟩
 ·exact cC h
 ·rw[List.length_take,List.length_drop]
  omega
theorem DZ {P:Program} {μ:Mu} {F:cO} {M:aI} {w:World} (hg:eP μ F M w) {sz:Nat} {x:AV} {m:Nat} {cs:List AV} (h:LQ M sz x m cs) {v:Value} (hr:bR μ F w x v):
  ∃(A:Option Addr) (cap:Nat) (vs:List Value),v=.slice A m cap∧vs.length=m*sz∧(∀k,k≤m→(Builtin.firstCells sz k v).run P w=.ok (vs.take (k*sz)).toArray w)∧(∀u,u∈vs→u.oneCell'=true)∧∀(p:Nat) (c:AV) (u:Value),cs[p]? =some c→vs[p]? =some u→bR μ F w c u:=by
 rcases h with ⟨ys,t,rfl,rfl,rfl,hz⟩|⟨id,off,cap,l,rfl,hM,hl,rfl⟩
 ·obtain⟨A,cap,b,o,vals,rfl,hsz,hcap,hA,hat,htag⟩:=hr.sl_flat
  cases ys with
  |nil=>
   refine⟨A,cap,[],rfl,by simp,fun k hk=>?_,by simp,by simp⟩
   obtain rfl:k=0:=by simpa using hk
   cases A with
   |none=>simp[Builtin.firstCells]
   |some a=>simp[Builtin.firstCells,loadCells,loadCellsFrom]
  |cons x0 r=>
   have hA':=hA (by simp)
   subst hA'
   have hl:=cC hsz
   obtain⟨h1,h2⟩:=pS (vals:=vals) hat
   refine⟨some ⟨b,o,none⟩,cap,(List.range (b9 (x0::r)).length).map vals,rfl,by rw[List.length_map,List.length_range,hl],fun k hk=>?_,h2,fun p c u hc hu=>?_⟩
   ·refine run_firstCells_some w sz k _ _ _ _ ?_ fun j u hu=>?_
    ·rw[List.length_take,List.length_map,List.length_range,hl]
     exact Nat.min_eq_left (Nat.mul_le_mul_right _ hk)
    ·rw[List.getElem?_take] at hu
     split at hu
     ·exact h1 j u hu
     ·cases hu
   ·have hp:p < (b9 (x0::r)).length:=(List.getElem?_eq_some_iff.1 hc).1
    rw[List.getElem?_map,List.getElem?_range hp] at hu
    simp at hu
    subst hu
    exact (hat p c hc).rep
 ·obtain⟨b,hb,rfl⟩:=fD hg hM hr
  obtain⟨b',c,tb,hb1,hb2,hb3,hb4,hb5⟩:=hg.obj id l hM
  rw[hb] at hb1
  cases hb1
  refine⟨some ⟨b,off,none⟩,cap,(c.toList.drop off).take (m*sz),rfl,?_,fun k hk=>?_,fun u hu=>?_,fun p a u hc hu=>?_⟩
  ·rw[List.length_take,List.length_drop,Array.length_toList]
   omega
  ·have hkm:=Nat.mul_le_mul_right sz hk
   refine run_firstCells_some w sz k _ _ _ _ ?_ fun j u hu=>?_
   ·rw[List.length_take,List.length_take,List.length_drop,Array.length_toList]
    omega
   ·rw[List.getElem?_take] at hu
    split at hu
    ·rw[List.getElem?_take] at hu
     split at hu
     ·rw[List.getElem?_drop,Array.getElem?_toList] at hu
      rw[Addr.add_lit]
      show w.cell? ⟨b,off+j,none⟩=some u
      rw[cR hb2]
      exact hu
     ·cases hu
    ·cases hu
  ·obtain⟨j,hj⟩:=List.getElem?_of_mem hu
   rw[List.getElem?_take] at hj
   split at hj
   ·rw[List.getElem?_drop,Array.getElem?_toList] at hj
    exact hb4 _ _ hj
   ·cases hj
  ·rw[List.getElem?_take] at hc hu
   split at hc
   ·rename_i hp
    rw[if_pos hp] at hu
    rw[List.getElem?_drop] at hc hu
    rw[Array.getElem?_toList] at hu
    exact hb5 _ _ _ hc hu
   ·cases hc
theorem uY {P:Program} {μ:Mu} {F:cO} {M:aI} {w:World} (hg:eP μ F M w) {id b off:Nat} {l cs:List AV} (hM:M.get id=some (.cells l)) (hb:μ id=some (.at b)) {vs:List Value} (hl:vs.length=cs.length) (hle:off+cs.length≤l.length)
  (h1:∀u,u∈vs→u.oneCell'=true) (h2:∀(p:Nat) (c:AV) (u:Value),cs[p]? =some c→vs[p]? =some u→bR μ F w c u):
  (∀j,j < vs.length→(w.cell? ⟨b,off+j,none⟩).isSome=true)∧(∀j,j < vs.length→w.frozen? ⟨b,off+j,none⟩=false)∧(storeCells ⟨b,off,none⟩ vs 0).run P w=.ok () (w.setCells b off vs)∧eB w μ (w.setCells b off vs) μ∧eP μ F (M.set id (.cells (bA l off cs))) (w.setCells b off vs):=by
 obtain⟨b',c,tb,hb1,hb2,hb3,hb4,hb5⟩:=hg.obj id l hM
 rw[hb] at hb1
 cases hb1
 obtain⟨hw,c',hc',hs',hget⟩:=gL b vs off c tb (0,0) w hb2 (by omega)
 have hin:∀k v,c'[k]? =some v→(off≤k∧k < off+cs.length∧vs[k - off]? =some v)∨(¬(off≤k∧k < off+cs.length)∧c[k]? =some v):=by
  intro k v hk
  rw[hget,hl] at hk
  split at hk
  ·rename_i h;exact .inl ⟨h.1,h.2,hk⟩
  ·rename_i h;exact .inr ⟨h,hk⟩
 have a1:∀j,j < vs.length→(w.cell? ⟨b,off+j,none⟩).isSome=true:=fun j hj=>by
  rw[cR hb2,Array.getElem?_eq_getElem (show off+j < c.size by omega)]
  rfl
 have a2:∀j,j < vs.length→w.frozen? ⟨b,off+j,none⟩=false:=fun j hj=>by simp[World.frozen?,hb2]
 refine⟨a1,a2,?_,mK hg hb hb2 hw (l:=bA l off cs) hc' hs' (by rw[hs',hb3,bN]) (fun k v hk=>by
   rcases hin k v hk with ⟨_,_,h⟩|⟨_,h⟩
   ·exact h1 _ (List.mem_of_getElem? h)
   ·exact hb4 _ _ h) (fun k q v hq hk=>by
   rw[fO _ _ _ _ hle] at hq
   rcases hin k v hk with ⟨ha,hb',h⟩|⟨hn',h⟩
   ·rw[if_pos ⟨ha,hb'⟩] at hq
    exact h2 _ _ _ hq h
   ·rw[if_neg hn'] at hq
    exact hb5 _ _ _ hq h)⟩
 have hst:=run_storeCells_cells (P:=P) b off vs 0 w (by simpa using a1) (by simpa using a2) h1
 simpa using hst
theorem UL {P:Program} {τ:Tab} (hτ:TabOK P τ) {td ts e:TypeId} {ti ei:TI} (ht:aK τ td=some ti) (hk:ti.k=.slice e) (he:aK τ e=some ei) {x y:Operand} {ty:TypeId} {ρ:Operand→AV} {M:aI} {id off n cap sz m k:Nat} {l cs:List AV}
  (hsz:sz=ei.size) (hx:ρ x=.osl id off n cap sz) (hM:M.get id=some (.cells l)) (hl:off+n*sz≤l.length) (hy:LQ M sz (ρ y) m cs) (hkm:Nat.min m n=k):
  KX P (.call {callee:=.builtin .copy,args:=#[x,y],argTypes:=#[td,ts]}) ty ρ M (.int .i64 k) (M.set id (.cells (bA l off (cs.take (k*sz))))):=by
 subst hsz
 intro μ F w ρc o hg ho hty hr
 have hrx:=hr x (by simp[Op.operands,Call.operands])
 have hry:=hr y (by simp[Op.operands,Call.operands])
 rw[hx] at hrx
 obtain⟨b,hb,hv⟩:=fD hg hM hrx
 obtain⟨A,cap',vs,hvy,hvl,hf,h1,h2⟩:=DZ (P:=P) hg hy hry
 obtain⟨ft,dt,zt,HT⟩:=TI.spec hτ ht
 obtain⟨fe,de,ze,HE⟩:=TI.spec hτ he
 have hfi:=HT.fits
 rw[hk] at hfi
 have hdd:dt=.slice e:=by
  cases dt<;>simp[TK.fits] at hfi
  rw[hfi]
 subst hdd
 have hk1:k≤m:=by rw[←hkm];exact Nat.min_le_left _ _
 have hk2:k≤n:=by rw[←hkm];exact Nat.min_le_right _ _
 have hkm':=Nat.mul_le_mul_right ei.size hk1
 have hkn':=Nat.mul_le_mul_right ei.size hk2
 have hcl:=hy.len
 obtain⟨_,_,g3,g4,g5⟩:=uY (P:=P) hg (off:=off) (cs:=cs.take (k*ei.size)) hM hb (vs:=vs.take (k*ei.size)) (by rw[List.length_take,List.length_take];omega) (by rw[List.length_take];omega) (fun u hu=>h1 u (List.mem_of_mem_take hu)) (fun p c u hc hu=>by
  rw[List.getElem?_take] at hc hu
  split at hc
  ·rename_i hp
   rw[if_pos hp] at hu
   exact h2 p c u hc hu
  ·cases hc)
 have hf':=hf k hk1
 rw[hvy] at hf'
 refine⟨μ,.value (.int .i64 k),_,_,?_,.inl rfl,g4,g5,.int _ _⟩
 simp[execOp,ho,resolve,invoke,builtin,hv,hvy,Builtin.copy_,run_underlying HT.und,Builtin.lenOf,hkm,run_sizeOf w HE.info,HE.size,HE.cellsOf,hf',g3,goInt]
theorem J0 {P:Program} {e:TypeId} {ei:TI} {fe:TypeInfo} {de:TypeDesc} {ze:Value} (hp:0 < ei.size) (HE:KY P e ei fe de ze) (hzs:ze.cells.size=ei.size) (n:Nat) (u:Value) (hu:u∈Builtin.zeroCells ze.cells n):u.oneCell'=true:=
 jD (z:=ze.cells) (fun u hu=>by
  obtain⟨j,hj⟩:=List.getElem?_of_mem (Array.mem_toList_iff.2 hu)
  have hjl:j < ei.zero.length:=by
   rw[HE.len,←hzs,←Array.length_toList]
   exact (List.getElem?_eq_some_iff.1 hj).1
  obtain⟨rfl,hp⟩:=(bZ HE.cells).2 j u _ (by simpa using hj) (List.getElem?_eq_getElem hjl)
  exact pV hp) (by rw[hzs];exact hp) _ u hu
theorem RD {P:Program} {τ:Tab} (hτ:TabOK P τ) {td e:TypeId} {ti ei:TI} (ht:aK τ td=some ti) (hk:ti.k=.slice e) (he:aK τ e=some ei) {x:Operand} {ty:TypeId} {ρ:Operand→AV} {M:aI} {id off n cap sz:Nat} {l:List AV}
  (hsz:sz=ei.size) (hx:ρ x=.osl id off n cap sz) (hM:M.get id=some (.cells l)) (hl:off+n*sz≤l.length) (hn:0 < n) (hp:0 < sz):
  KX P (.call {callee:=.builtin .clear,args:=#[x],argTypes:=#[td]}) ty ρ M .top (M.set id (.cells (bA l off (List.replicate (n*sz) .top)))):=by
 subst hsz
 intro μ F w ρc o hg ho hty hr
 have hrx:=hr x (by simp[Op.operands,Call.operands])
 rw[hx] at hrx
 obtain⟨b,hb,hv⟩:=fD hg hM hrx
 obtain⟨ft,dt,zt,HT⟩:=TI.spec hτ ht
 obtain⟨fe,de,ze,HE⟩:=TI.spec hτ he
 have hfi:=HT.fits
 rw[hk] at hfi
 have hdd:dt=.slice e:=by
  cases dt<;>simp[TK.fits] at hfi
  rw[hfi]
 subst hdd
 have hzs:ze.cells.size=ei.size:=by
  have:=(bZ HE.cells).1
  simp only[Array.length_toList] at this
  rw[this,HE.len]
 have hzl:(Builtin.zeroCells ze.cells n).toList.length=n*ei.size:=by rw[Array.length_toList,size_zeroCells,hzs]
 obtain⟨_,_,g3,g4,g5⟩:=uY (P:=P) hg (off:=off) (cs:=List.replicate (n*ei.size) .top) hM hb (vs:=(Builtin.zeroCells ze.cells n).toList) (by rw[hzl,List.length_replicate]) (by rw[List.length_replicate];exact hl) (fun u hu=>J0 hp HE hzs n u (Array.mem_toList_iff.1 hu)) (fun p c u hc hu=>by
  rw[List.getElem?_replicate] at hc
  split at hc
  ·cases hc
   exact .top u
  ·cases hc)
 have hze:(zeroValue e).run P w=.ok ze w:=by simp[zeroValue,typeInfo,HE.info,HE.zero]
 obtain⟨m,rfl⟩:∃m,n=m+1:=⟨n - 1,by omega⟩
 refine⟨μ,.value (.tuple #[]),_,_,?_,.inl rfl,g4,g5,.top _⟩
 simp[execOp,ho,resolve,invoke,builtin,hv,Builtin.clear_,run_underlying HT.und,hze,g3]
theorem IE {P:Program} {τ:Tab} (hτ:TabOK P τ) {td tx e e':TypeId} {ti ei xi:TI} (ht:aK τ td=some ti) (hk:ti.k=.slice e) (he:aK τ e=some ei) (hxt:aK τ tx=some xi) (hxk:xi.k=.slice e') {x y:Operand} {ty:TypeId} {ρ:Operand→AV} {M:aI} {id off n cap sz m:Nat} {l cs:List AV}
  (hsz:sz=ei.size) (hx:ρ x=.osl id off n cap sz) (hM:M.get id=some (.cells l)) (hl:off+(n+m)*sz≤l.length) (hy:LQ M sz (ρ y) m cs) (hroom:n+m≤cap):
  KX P (.call {callee:=.builtin .append,args:=#[x,y],argTypes:=#[td,tx]}) ty ρ M (.osl id off (n+m) cap sz) (M.set id (.cells (bA l (off+n*sz) cs))):=by
 subst hsz
 intro μ F w ρc o hg ho hty hr
 have hrx:=hr x (by simp[Op.operands,Call.operands])
 have hry:=hr y (by simp[Op.operands,Call.operands])
 rw[hx] at hrx
 obtain⟨b,hb,hv⟩:=fD hg hM hrx
 obtain⟨A,cap',vs,hvy,hvl,hf,h1,h2⟩:=DZ (P:=P) hg hy hry
 obtain⟨ft,dt,zt,HT⟩:=TI.spec hτ ht
 obtain⟨fe,de,ze,HE⟩:=TI.spec hτ he
 obtain⟨fx,dx,zx,HX⟩:=TI.spec hτ hxt
 have hfi:=HT.fits
 rw[hk] at hfi
 have hdd:dt=.slice e:=by
  cases dt<;>simp[TK.fits] at hfi
  rw[hfi]
 subst hdd
 have hfx:=HX.fits
 rw[hxk] at hfx
 have hdx:dx=.slice e':=by
  cases dx<;>simp[TK.fits] at hfx
  rw[hfx]
 subst hdx
 have hcl:=hy.len
 have hmul:(n+m)*ei.size=n*ei.size+m*ei.size:=Nat.add_mul _ _ _
 obtain⟨_,_,g3,g4,g5⟩:=uY (P:=P) hg (off:=off+n*ei.size) (cs:=cs) hM hb (vs:=vs) (by omega) (by omega) h1 h2
 have hf':=hf m (Nat.le_refl _)
 rw[hvy,List.take_of_length_le (by omega)] at hf'
 refine⟨μ,.value (.slice (some ⟨b,off,none⟩) (n+m) cap),_,_,?_,.inl rfl,g4,g5,.osl _ _ _ _ _ _ rfl (by rw[hb];simp) (fun b' hb'=>by rw[hb] at hb';cases hb';rfl)⟩
 simp[execOp,ho,resolve,invoke,builtin,hv,hvy,Builtin.append_,run_underlying HT.und,run_underlying HX.und,Builtin.lenOf,run_sizeOf w HE.info,HE.size,HE.cellsOf,hroom,hf',g3,Addr.add_lit]
theorem YP {P:Program} {τ:Tab} (hτ:TabOK P τ) {t e:TypeId} {ti ei:TI} (ht:aK τ t=some ti) (hk:ti.k=.slice e) (he:aK τ e=some ei) {X:Operand} {L H:Option Operand} {ty:TypeId} {ρ:Operand→AV} {M:aI} {id off n cap sz:Nat} {l:List AV} {lo h:Nat}
  (hsz:sz=ei.size) (hX:ρ X=.osl id off n cap sz) (hM:M.get id=some (.cells l)) (hL:sB (L.map ρ) 0=some (lo:Int)) (hH:sB (H.map ρ) n=some (h:Int)) (h0:lo≤h) (h2:h≤cap):x7 P (.slice t X L H none) ty ρ M (.osl id (if lo < cap then off+lo*sz else off) (h - lo) (cap - lo) sz):=by
 subst hsz
 intro μ F w ρc o hg ho hty hr
 have hx:=hr X (by simp[Op.operands])
 rw[hX] at hx
 obtain⟨b,hb,hv⟩:=fD hg hM hx
 obtain⟨ft,dt,zt,HT⟩:=TI.spec hτ ht
 obtain⟨fe,de,ze,HE⟩:=TI.spec hτ he
 have hf:=HT.fits
 rw[hk] at hf
 have hdd:dt=.slice e:=by
  cases dt<;>simp[TK.fits] at hf
  rw[hf]
 subst hdd
 have hbd:=kX (P:=P) (w:=w) (isS:=true) (n:=n) (m:=cap) (iO hL fun x hx=>hr x (by simp[Op.operands,hx])) (iO hH fun x hx=>hr x (by simp[Op.operands,hx])) (by omega) (by omega) (by omega)
 simp only[Int.toNat_natCast] at hbd
 refine⟨.slice (some ⟨b,if lo < cap then off+lo*ei.size else off,none⟩) (h - lo) (cap - lo),w,?_,Below.refl _ _,.osl _ _ _ _ _ _ rfl (by rw[hb];simp) (fun b' hb'=>by rw[hb] at hb';cases hb';rfl)⟩
 simp only[execOp,ho,hv,Instr.sliceAt,Sem.run_bind,run_underlying HT.und,Result.andThen_ok,Instr.slice,Option.map_none,hbd,run_sizeOf w HE.info,HE.cellsOf,HE.size,Sem.run_pure]
 by_cases g:lo < cap
 ·have g2:¬cap=lo:=by omega
  simp[g,g2,Addr.add_lit]
 ·have g2:cap=lo:=by omega
  simp[g2]
theorem ZL {P:Program} {τ:Tab} (hτ:TabOK P τ) {t:TypeId} {ti:TI} (ht:aK τ t=some ti) {e:TypeId} (hk:ti.k=.slice e) {x:Operand} {ty:TypeId} {ρ:Operand→AV} {M:aI} {id off n cap sz:Nat} {l:List AV}
  (hx:ρ x=.osl id off n cap sz) (hM:M.get id=some (.cells l)):x7 P (.call {callee:=.builtin .cap,args:=#[x],argTypes:=#[t]}) ty ρ M (.int .i64 cap):=by
 intro μ F w ρc o hg ho hty hr
 have h1:=hr x (by simp[Op.operands,Call.operands])
 rw[hx] at h1
 obtain⟨b,hb,hv⟩:=fD hg hM h1
 obtain⟨f,d,z,H⟩:=TI.spec hτ ht
 have hf:=H.fits
 rw[hk] at hf
 cases d<;>simp[TK.fits] at hf
 have hu:=H.und
 exact⟨_,w,by simp[execOp,ho,resolve,invoke,builtin,Builtin.cap_,hv,run_underlying hu,goInt],Below.refl _ _,.int _ _⟩
theorem X9 {P:Program} {τ:Tab} (hτ:TabOK P τ) {t e:TypeId} {ti ei:TI} (ht:aK τ t=some ti) (hk:ti.k=.slice e) (he:aK τ e=some ei) {X L H Z:Operand} {ty:TypeId} {ρ:Operand→AV} {M:aI} {id off n cap sz:Nat} {l:List AV} {k1 k2 k3:IntKind} {lo h m:Nat}
  (hX:ρ X=.osl id off n cap sz) (hM:M.get id=some (.cells l)) (hL:ρ L=.int k1 (lo:Int)) (hH:ρ H=.int k2 (h:Int)) (hZ:ρ Z=.int k3 (m:Int)) (h0:lo≤h) (h1:h≤m) (h2:m≤cap):x7 P (.slice t X (some L) (some H) (some Z)) ty ρ M .top:=by
 intro μ F w ρc o hg ho hty hr
 have hx:=hr X (by simp[Op.operands])
 have rl:=hr L (by simp[Op.operands])
 have rh:=hr H (by simp[Op.operands])
 have rz:=hr Z (by simp[Op.operands])
 rw[hX] at hx
 rw[hL] at rl
 rw[hH] at rh
 rw[hZ] at rz
 obtain⟨b,hb,hv⟩:=fD hg hM hx
 generalize hl:ρc L=vl at rl
 generalize hh:ρc H=vh at rh
 generalize hz:ρc Z=vz at rz
 cases rl
 cases rh
 cases rz
 obtain⟨ft,dt,zt,HT⟩:=TI.spec hτ ht
 obtain⟨fe,de,ze,HE⟩:=TI.spec hτ he
 have hf:=HT.fits
 rw[hk] at hf
 have hdd:dt=.slice e:=by
  cases dt<;>simp[TK.fits] at hf
  rw[hf]
 subst hdd
 have hbd:(Instr.sliceBounds true n cap (some (.int k1 (lo:Int))) (some (.int k2 (h:Int))) (some (.int k3 (m:Int)))).run P w=.ok (lo,h,m) w:=by
  simp[Instr.sliceBounds,Instr.sliceBound,asIntOf,h0,h1,h2]
 refine⟨.slice (if m=lo then some ⟨b,off,none⟩ else (some ⟨b,off,none⟩:Option Addr).map (·.add (lo*ei.size))) (h - lo) (m - lo),w,?_,Below.refl _ _,.top _⟩
 simp only[execOp,ho,hv,hl,hh,hz,Instr.sliceAt,Sem.run_bind,run_underlying HT.und,Result.andThen_ok,Instr.slice,Option.map_some,hbd,run_sizeOf w HE.info,HE.cellsOf,HE.size,Sem.run_pure]
theorem wZ {P:Program} {t tx ty e:TypeId} {k:IntKind} {i:TypeInfo} {z:Value} (ht:P.underlying t=some (.slice e)) (hx:P.underlying tx=some (.int k)) (hi:P.info? e=some i) (hz:i.zero=some z) (a cap n:Nat) (h0:0 < n) (hg:cap < a+n) (h1:a+n≤140737488355328) (h2:(a+n)*i.bytes≤140737488355328) (hsz:0 < i.size) (w:World) (A:Option Addr) (olds:List Value)
  (hold:(Builtin.firstCells i.size a (.slice A a cap)).run P w.drew=.ok olds.toArray w.drew):
  (Builtin.append_ #[t,tx] ty #[.slice A a cap,.int .i64 n]).run P w=
   .ok (.slice (some ⟨w.heap.size,0,none⟩) (a+n) (grownCap w (a+n) cap e))
    (w.drew.alloc (.cells (olds.toArray++Builtin.zeroCells z.cells n++Builtin.zeroCells z.cells (grownCap w (a+n) cap e - (a+n))) e)):=by
 have hw:IntKind.wrap .i64 (n:Int)=n:=wrap_small (by omega) (by omega)
 have a1:¬((n:Int) < 0):=by omega
 have hnb:n*i.bytes≤140737488355328:=Nat.le_trans (Nat.mul_le_mul_right _ (Nat.le_add_left n a)) h2
 have a2:¬(281474976710656 < (n:Int)*(i.bytes:Int)):=by
  have:((n*i.bytes:Nat):Int)=(n:Int)*(i.bytes:Int):=by push_cast;rfl
  omega
 have a3:¬(9223372036854775807 < (a:Int)+(n:Int)):=by omega
 have a4:¬a+n≤cap:=by omega
 have a5:¬(281474976710656 < Builtin.nextslicecap (a+n) cap*i.bytes):=Nat.not_lt.2 (growslice_fits hg h2)
 have a8:¬(9223372036854775807 < (a:Int)+max (n:Int) 0):=by omega
 have a9:¬(n=0∨i.size=0):=by omega
 simp[Builtin.append_,run_underlying ht,run_underlying hx,sizeOf,typeInfo,zeroValue,hi,hz,hw,a1,a2,a3,a4,a5,a8,a9,Question.forced,newRow,grownCap,hold,asInt,asIntOf]
 intro h
 exact absurd (Nat.mul_eq_zero.1 h) a9
theorem wX {P:Program} {τ:Tab} (hτ:TabOK P τ) {t tx e:TypeId} {ti ei xi:TI} (hin:qW P τ t e ti ei) (hxi:aK τ tx=some xi) (hxk:xi.k=.int .i64) {o:Oper} {s x:Operand}
  (ho:o.op=.call {callee:=.builtin .append,args:=#[s,x],argTypes:=#[t,tx]}) {ρ:Operand→AV} {M:aI} {id a cap sz n:Nat} {l:List AV} (hsz:sz=ei.size) (hS:ρ s=.osl id 0 a cap sz) (hM:M.get id=some (.cells l)) (hl:l.length=cap*sz) (hac:a≤cap) (hX:ρ x=.int .i64 (n:Int)) (h0:0 < n) (hg:cap < a+n)
  (hb:(a+n)*ei.bytes≤140737488355328) (hlen:a+n≤140737488355328) {Kp:AV→aI→Prop}:
  jQ P o ρ M (fun u M'=>∃(cap':Nat) (l':List AV),a+n≤cap'∧l'.length=cap'*sz∧l'.take (a*sz)=l.take (a*sz)∧u=.osl M.next 0 (a+n) cap' sz∧M'=M.push (.cells l')) Kp:=by
 subst hsz
 intro μ F w ac hgam hr next Q' hnext _
 have hs:=hr s (by simp[ho,Op.operands,Call.operands])
 have hx:=hr x (by simp[ho,Op.operands,Call.operands])
 rw[hS] at hs
 rw[hX] at hx
 generalize hxe:ac.eval x=xe at hx
 cases hx
 obtain⟨b,hbm,hv⟩:=fD hgam hM hs
 obtain⟨b',c,tb,hb1,hb2,hb3,hb4,hb5⟩:=hgam.obj id l hM
 rw[hbm] at hb1
 cases hb1
 obtain⟨ft,dt,zt,HT⟩:=TI.spec hτ hin.tl
 obtain⟨fe,de,ze,HE⟩:=TI.spec hτ hin.el
 obtain⟨fx,dx,zx,HX⟩:=TI.spec hτ hxi
 have hfi:=HT.fits
 rw[hin.tk] at hfi
 have hdd:dt=.slice e:=by
  cases dt<;>simp[TK.fits] at hfi
  rw[hfi]
 subst hdd
 have hfx:=HX.fits
 rw[hxk] at hfx
 have hdx:dx=.int .i64:=by
  cases dx<;>simp[TK.fits] at hfx
  rw[hfx]
 subst hdx
 have hex:∀v w',(Builtin.append_ #[t,tx] o.type #[ac.eval s,ac.eval x]).run P w=.ok v w'→(execOp ac.eval o).run P w=.ok (.value v) w':=by
  intro v w' h
  simp[execOp,ho,resolve,invoke,builtin,h]
 unfold Oper.wp
 have hcs:a*ei.size≤c.size:=by rw[hb3,hl];exact Nat.mul_le_mul_right _ hac
 let olds:=c.toList.take (a*ei.size)
 have hol:olds.length=a*ei.size:=by simp[olds];omega
 have hold:(Builtin.firstCells fe.size a (.slice (some ⟨b,0,none⟩) a cap)).run P w.drew=.ok olds.toArray w.drew:=by
  rw[HE.size]
  refine run_firstCells_some w.drew ei.size a _ _ _ olds hol (fun j u hu=>?_)
  have hj:olds[j]? =c[j]? :=by
   have:j < a*ei.size:=by rw[←hol];exact (List.getElem?_eq_some_iff.1 hu).1
   simp only[olds,List.getElem?_take,if_pos this,Array.getElem?_toList]
  rw[hj] at hu
  have:=cR (o:=0+j) hb2
  rw[Addr.add_lit]
  show w.cell? ⟨b,0+j,none⟩=some u
  rw[this,Nat.zero_add]
  exact hu
 have hrun:=wZ (ty:=o.type) (P:=P) HT.und HX.und HE.info HE.zero a cap n h0 hg hlen (by rw[HE.bytes];exact hb) (by rw[HE.size];exact hin.pos) w _ olds hold
 have hge:=grownCap_ge w (a+n) cap e
 generalize hcap:grownCap w (a+n) cap e=cap' at hrun hge
 have hzs:ze.cells.size=ei.size:=by
  have:=(bZ HE.cells).1
  simp only[Array.length_toList] at this
  rw[this,HE.len]
 let zz:Array Value:=Builtin.zeroCells ze.cells n++Builtin.zeroCells ze.cells (cap' - (a+n))
 have hzz:zz.size=(cap' - a)*ei.size:=by
  simp only[zz,Array.size_append,size_zeroCells,hzs,←Nat.add_mul]
  congr 1
  omega
 let c':Array Value:=olds.toArray++zz
 let w':World:=w.drew.alloc (.cells c' e)
 have hc's:c'.size=cap'*ei.size:=by
  simp only[c',Array.size_append,List.size_toArray,hol,hzz,←Nat.add_mul]
  congr 1
  omega
 have hheap:w'.heap[w.heap.size]? =some (.cells c' e (0,0)):=heap_alloc_new w.drew _
 have hbelow:Below w.heap.size w w':=⟨rfl,rfl,rfl,by simp[w',World.alloc],fun k hk=>heap_alloc_old w.drew _ hk⟩
 let l':List AV:=l.take (a*ei.size)++List.replicate ((cap' - a)*ei.size) .top
 have hlt:(l.take (a*ei.size)).length=a*ei.size:=by rw[List.length_take,hl];exact Nat.min_eq_left (Nat.mul_le_mul_right _ hac)
 have hl':l'.length=cap'*ei.size:=by
  simp only[l',List.length_append,List.length_replicate,hlt,←Nat.add_mul]
  congr 1
  omega
 have hone:∀(m:Nat) (v:Value),v∈Builtin.zeroCells ze.cells m→v.oneCell'=true:=fun m v hm=>J0 hin.pos HE hzs m v hm
 obtain⟨hev,hG⟩:=kQ hgam hbelow (l:=l') (c:=c') (ty:=e) (b:=w.heap.size) (Nat.le_refl _) hheap (by rw[hc's,hl']) (by
   intro i v hi
   have hm:=Array.mem_of_getElem? hi
   rcases Array.mem_append.1 hm with h|h
   ·obtain⟨j,hj⟩:=List.getElem?_of_mem (List.mem_of_mem_take (List.mem_toArray.1 h))
    exact hb4 j v (by simpa using hj)
   ·rcases Array.mem_append.1 h with h|h
    ·exact hone _ v h
    ·exact hone _ v h) (by
   intro i q v hq hi
   simp only[l'] at hq
   simp only[c'] at hi
   by_cases h1:i < a*ei.size
   ·rw[List.getElem?_append_left (by rw[hlt];exact h1),List.getElem?_take,if_pos h1] at hq
    rw[Array.getElem?_append_left (by simp only[List.size_toArray];omega)] at hi
    simp only[List.getElem?_toArray] at hi
    simp only[olds,List.getElem?_take,if_pos h1,Array.getElem?_toList] at hi
    exact hb5 i q v hq hi
   ·rw[List.getElem?_append_right (by omega)] at hq
    have:=List.mem_of_getElem? hq
    rw[List.mem_replicate] at this
    rw[this.2]
    exact .top _)
 rw[hv,hxe] at hex
 have hrun2:=hex _ _ hrun
 have harr:olds.toArray++Builtin.zeroCells ze.cells n++Builtin.zeroCells ze.cells (cap' - (a+n))=c':=by simp only[c',zz,Array.append_assoc]
 rw[harr] at hrun2
 rw[hrun2]
 refine hnext _ _ _ _ _ hev hG (mY (b:=w.heap.size) (by simp[Mu.put])) ⟨cap',l',hge,hl',?_,rfl,rfl⟩
 simp only[l']
 rw[List.take_append_of_le_length (by omega),List.take_of_length_le (by omega)]
section
variable {P:Program} {τ:Tab} {ops:Array Oper} {cls:Nat→fZ} {Q:AX→AF→aI→Prop} {ds:List bH} {ls:List Nat} {i:Nat} {o:Oper} {t:List (Nat×AV)} {M:aI}
theorem gJ (hτ:TabOK P τ) {d:Nat} (hi:ops[i]? =some o) (hw:aV ops ⟨t,ds⟩ o=some true) (hd:o.dst=some d) (hc:qH (cls i)=true) {ty e:TypeId} {X:Operand} {L H:Option Operand} (ho:o.op=.slice ty X L H none) {id off n cap sz lo hh:Nat} {l:List AV}
  (hX:AF.ev ⟨t,ds⟩ X=.osl id off n cap sz) {ti ei:TI} (ht:aK τ ty=some ti) (hk:ti.k=.slice e) (he:aK τ e=some ei) (hsz:sz=ei.size) (hM:M.get id=some (.cells l)) (hL:sB (L.map (AF.ev ⟨t,ds⟩)) 0=some (lo:Int)) (hH:sB (H.map (AF.ev ⟨t,ds⟩)) n=some (hh:Int)) (h0:lo≤hh) (h2:hh≤cap) {off' n' cap':Nat} (e1:(if lo < cap then off+lo*sz else off)=off') (e2:hh - lo=n') (e3:cap - lo=cap')
  (h:DW P ops cls Q ds ls ((d,.osl id off' n' cap' sz)::t) M):DW P ops cls Q ds (i::ls) t M:=by
 subst e1 e2 e3
 exact kY hi hw hd hc (by rw[ho];exact YP hτ ht hk he hsz hX hM hL hH h0 h2) h
theorem a24 (hτ:TabOK P τ) {d:Nat} (hi:ops[i]? =some o) (hw:aV ops ⟨t,ds⟩ o=some true) (hd:o.dst=some d) (hc:qH (cls i)=true) {ty e:TypeId} {X L H Z:Operand} (ho:o.op=.slice ty X (some L) (some H) (some Z)) {id off n cap sz lo hh m:Nat} {l:List AV} {k1 k2 k3:IntKind}
  (hX:AF.ev ⟨t,ds⟩ X=.osl id off n cap sz) {ti ei:TI} (ht:aK τ ty=some ti) (hk:ti.k=.slice e) (he:aK τ e=some ei) (hM:M.get id=some (.cells l)) (hL:AF.ev ⟨t,ds⟩ L=.int k1 (lo:Int)) (hH:AF.ev ⟨t,ds⟩ H=.int k2 (hh:Int)) (hZ:AF.ev ⟨t,ds⟩ Z=.int k3 (m:Int)) (h0:lo≤hh) (h1:hh≤m) (h2:m≤cap)
  (h:DW P ops cls Q ds ls ((d,.top)::t) M):DW P ops cls Q ds (i::ls) t M:=
 kY hi hw hd hc (by rw[ho];exact X9 hτ ht hk he hX hM hL hH hZ h0 h1 h2) h
theorem QP (hτ:TabOK P τ) {d:Nat} (hi:ops[i]? =some o) (hw:aV ops ⟨t,ds⟩ o=some true) (hd:o.dst=some d) (hc:qH (cls i)=true) {x:Operand} {ts e:TypeId} (ho:o.op=.call {callee:=.builtin .cap,args:=#[x],argTypes:=#[ts]})
  {id off n cap sz:Nat} {l:List AV} (hx:AF.ev ⟨t,ds⟩ x=.osl id off n cap sz) (hM:M.get id=some (.cells l)) {ti:TI} (ht:aK τ ts=some ti) (hk:ti.k=.slice e) (h:DW P ops cls Q ds ls ((d,.int .i64 cap)::t) M):DW P ops cls Q ds (i::ls) t M:=
 kY hi hw hd hc (by rw[ho];exact ZL hτ ht hk hx hM) h
theorem sJ (hτ:TabOK P τ) {d:Nat} (hi:ops[i]? =some o) (hw:aV ops ⟨t,ds⟩ o=some true) (hd:o.dst=some d) (hc:qJ (cls i)=true) {x y:Operand} {td ts e:TypeId} (ho:o.op=.call {callee:=.builtin .copy,args:=#[x,y],argTypes:=#[td,ts]})
  {id off n cap sz m k:Nat} {l cs:List AV} (hx:AF.ev ⟨t,ds⟩ x=.osl id off n cap sz) {ti ei:TI} (ht:aK τ td=some ti) (hk:ti.k=.slice e) (he:aK τ e=some ei) (hsz:sz=ei.size) (hM:M.get id=some (.cells l)) (hl:off+n*sz≤l.length) (hy:LQ M sz (AF.ev ⟨t,ds⟩ y) m cs) (hkm:Nat.min m n=k) {cs':List AV} (e1:cs.take (k*sz)=cs')
  (h:DW P ops cls Q ds ls ((d,.int .i64 k)::t) (M.set id (.cells (bA l off cs')))):DW P ops cls Q ds (i::ls) t M:=by
 subst e1
 exact rT hi hw hd hc (by rw[ho];exact UL hτ ht hk he hsz hx hM hl hy hkm) h
theorem S2 (hτ:TabOK P τ) (hi:ops[i]? =some o) (hw:aV ops ⟨t,ds⟩ o=some true) (hd:o.dst=none) (hc:qJ (cls i)=true) {x:Operand} {td e:TypeId} (ho:o.op=.call {callee:=.builtin .clear,args:=#[x],argTypes:=#[td]})
  {id off n cap sz:Nat} {l:List AV} (hx:AF.ev ⟨t,ds⟩ x=.osl id off n cap sz) {ti ei:TI} (ht:aK τ td=some ti) (hk:ti.k=.slice e) (he:aK τ e=some ei) (hsz:sz=ei.size) (hM:M.get id=some (.cells l)) (hl:off+n*sz≤l.length) (hn:0 < n) (hp:0 < sz)
  (h:DW P ops cls Q ds ls t (M.set id (.cells (bA l off (List.replicate (n*sz) .top))))):DW P ops cls Q ds (i::ls) t M:=
 G2 hi hw hd hc (by rw[ho];exact RD hτ ht hk he hsz hx hM hl hn hp) h
theorem W8 (hτ:TabOK P τ) {d:Nat} (hi:ops[i]? =some o) (hw:aV ops ⟨t,ds⟩ o=some true) (hd:o.dst=some d) (hc:qJ (cls i)=true) {x y:Operand} {td tx e e':TypeId} (ho:o.op=.call {callee:=.builtin .append,args:=#[x,y],argTypes:=#[td,tx]})
  {id off n cap sz m:Nat} {l cs:List AV} (hx:AF.ev ⟨t,ds⟩ x=.osl id off n cap sz) {ti ei xi:TI} (ht:aK τ td=some ti) (hk:ti.k=.slice e) (he:aK τ e=some ei) (hxt:aK τ tx=some xi) (hxk:xi.k=.slice e') (hsz:sz=ei.size) (hM:M.get id=some (.cells l)) (hl:off+(n+m)*sz≤l.length) (hy:LQ M sz (AF.ev ⟨t,ds⟩ y) m cs) (hroom:n+m≤cap) {n' p:Nat} (e1:n+m=n') (e2:off+n*sz=p)
  (h:DW P ops cls Q ds ls ((d,.osl id off n' cap sz)::t) (M.set id (.cells (bA l p cs)))):DW P ops cls Q ds (i::ls) t M:=by
 subst e1 e2
 exact rT hi hw hd hc (by rw[ho];exact IE hτ ht hk he hxt hxk hsz hx hM hl hy hroom) h
theorem TV (hτ:TabOK P τ) {d:Nat} (hi:ops[i]? =some o) (hw:aV ops ⟨t,ds⟩ o=some true) (hd:o.dst=some d) (hc:qJ (cls i)=true) {ty tx e:TypeId} {s x:Operand} (ho:o.op=.call {callee:=.builtin .append,args:=#[s,x],argTypes:=#[ty,tx]})
  {id a cap sz n:Nat} {l:List AV} (hS:AF.ev ⟨t,ds⟩ s=.osl id 0 a cap sz) {ti ei xi:TI} (ht:aK τ ty=some ti) (hk:ti.k=.slice e) (he:aK τ e=some ei) (hp:decide (0 < ei.size)=true) (hxi:aK τ tx=some xi) (hxk:xi.k=.int .i64) (hsz:sz=ei.size) (hX:AF.ev ⟨t,ds⟩ x=.int .i64 (n:Int)) (hM:M.get id=some (.cells l)) (hl:l.length=cap*sz) (hac:a≤cap) (h0:0 < n) (hg:cap < a+n)
  (hb:(a+n)*ei.bytes≤140737488355328) (hlen:a+n≤140737488355328)
  (h:∀(cap':Nat) (l':List AV),a+n≤cap'→l'.length=cap'*sz→l'.take (a*sz)=l.take (a*sz)→DW P ops cls Q ds ls ((d,.osl M.next 0 (a+n) cap' sz)::t) (M.push (.cells l'))):DW P ops cls Q ds (i::ls) t M:=by
 refine fA hi hw ?_
 refine SC.of_G hc (by intro c hc;rw[ho] at hc;cases hc) ?_
 ·refine jQ.mono (wX hτ ⟨ht,hk,he,of_decide_eq_true hp⟩ hxi hxk ho hsz hS hM hl hac hX h0 hg hb hlen) ?_
  rintro u M' ⟨cap',l',h1,h2,h3,rfl,rfl⟩
  have:=h cap' l' h1 h2 h3
  simpa [AF.put,hd] using this
end
end Go.Ab
