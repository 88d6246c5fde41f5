/- Parts of the proof, one behind the other. No further condition. -/
import Derived.Test.YthnhbmlefiafaaaGreatDoorK13
import Derived.Lib.LazyBuf
set_option linter.unusedVariables false
set_option linter.unusedSimpArgs false
set_option maxRecDepth 100000
set_option maxHeartbeats 8000000
namespace Go.Proofs.YthnhbmlefiafaaaGreatDoor
open Go.Ab
def jN (s:aG):aG:=if 4000 < s.length then [] else eU s.length++s
def gZ (t:aG):Option (aG×aG):=match bV t with
 |some (n,r)=>if n≤4000∧n≤r.length then some (r.take n,r.drop n) else none
 |none=>none
theorem RX {s r:aG} (h:s.length≤4000):gZ (jN s++r)=some (s,r):=by
 unfold gZ jN
 rw[if_neg (by omega),List.append_assoc,nS (by omega)]
 show (if _ then _ else _)=_
 rw[if_pos ⟨h,by simp⟩,List.take_left,List.drop_left]
theorem nD {s r:aG} {n:Nat} (h:bV s=some (n,r)):eU n++r=s∧n < 4294967296:=by
 cases s with
 |nil=>cases h
 |cons c q=>
  by_cases hc:4 < c.toNat∨q.length < c.toNat∨(q.take c.toNat).head?=some 0
  ·rw[fP hc] at h
   cases h
  ·rw[jJ hc] at h
   cases h
   have hl:(q.take c.toNat).length≤4:=by rw[List.length_take];omega
   have hp:=QT (c:=c) hl (by rw[List.length_take];omega)
   have hh:¬(q.take c.toNat).head?=some 0:=fun e=>hc (.inr (.inr e))
   rw[decide_eq_false hh] at hp
   have hp:eU (o8 (q.take c.toNat))=c::q.take c.toNat:=by simpa using hp
   exact⟨by rw[hp,List.cons_append,List.take_append_drop],uN 4 _ hl⟩
theorem GW:∀(m:Nat) {s:aG} {l:List Nat},s.length≤m→iY s=some l→cX (nI l)=s∧∀n,n∈l→n < 4294967296
 |m,s,l,hm,h=>by
  cases hg:bV s with
  |none=>
   by_cases hs:s=[]
   ·subst hs
    rw[mF] at h
    cases h
    exact⟨rfl,fun n hn=>by cases hn⟩
   ·rw[mT hg hs] at h
    cases h
  |some x=>
   obtain⟨n,r⟩:=x
   rw[kL hg] at h
   cases hr:iY r with
   |none=>rw[hr] at h;cases h
   |some k=>
    rw[hr] at h
    cases h
    have hlt:=(eF hg).1
    obtain⟨h1,h2⟩:=nD hg
    match m,hm with
    |0,hm=>omega
    |m+1,hm=>
     obtain⟨h3,h4⟩:=GW m (s:=r) (by omega) hr
     refine⟨?_,fun x hx=>?_⟩
     ·rw[←h1,←h3]
      simp[cX,nI]
     ·rcases List.mem_cons.1 hx with rfl|hx
      ·exact h2
      ·exact h4 x hx
theorem D1 {t s r:aG} (h:gZ t=some (s,r)):s.length≤4000∧jN s++r=t:=by
 unfold gZ at h
 split at h
 ·rename_i n q e
  split at h
  ·rename_i hn
   cases h
   have hl:(q.take n).length=n:=by rw[List.length_take];omega
   unfold jN
   rw[hl,if_neg (by omega),List.append_assoc,List.take_append_drop]
   exact⟨by omega,(nD e).1⟩
  ·cases h
 ·cases h
theorem j8 {s r:aG} {n:Nat} (h:bV s=some (n,r)):gZ s=if n≤4000∧n≤r.length then some (r.take n,r.drop n) else none:=by
 unfold gZ
 rw[h]
theorem yM {s:aG} (h:bV s=none):gZ s=none:=by
 unfold gZ
 rw[h]
def gtO:Option (aG×aG)→AV
 |some (a,b)=>.tup [.str a,.str b,.bool true]
 |none=>.tup [.str [],.str [],.bool false]
theorem NU {a b:aG} (h:a.length+b.length < 1000000000):a.length+b.length≤9223372036854775807∧a++b=a++b:=⟨by omega,rfl⟩
theorem ZF (s:aG) (hs:s.length < 1000000):aN Tryz.prog 123 [.str s] (.tup [.str (jN s),.int .i64 (if 4000 < s.length then 2 else 0)]):=by
 intro M
 refine aC aF Tryz.func123 rfl (by decide) (by simp[Tryz.f123]) ?_
 unfold jN
 by_cases h:4000 < s.length
 ·have d1:decide ((4000:Int) < (s.length:Int))=true:=decide_eq_true (by omega)
  rw[if_pos h,if_pos h]
  repeat' (first|refine zB rfl d1 ?_|refine zA rfl ?_|refine aA ?_|refine aJ rfl ?_)
  exact⟨rfl,_,rfl,rfl,rfl⟩
 ·have d1:decide ((4000:Int) < (s.length:Int))=false:=decide_eq_false (by omega)
  rw[if_neg h,if_neg h]
  have kn:=nP (m:=s.length) (by omega)
  have hcat:=NU (a:=eU s.length) (b:=s) (by have:=fH s.length;omega)
  repeat' (first|refine zB rfl d1 ?_|refine zA rfl ?_|refine aA ?_|refine aJ rfl ?_|refine aD rfl kn ?_|refine lW rfl (hcat) ?_)
  exact⟨rfl,_,rfl,rfl,rfl⟩
theorem YL (s:aG) (hs:s.length < 1000000):aN Tryz.prog 125 [.str s] (.tup [.str (jN s),.int .i64 (if 4000 < s.length then 2 else 0)]):=by
 intro M
 refine aC aF Tryz.func125 rfl (by decide) (by simp[Tryz.f125]) ?_
 unfold jN
 by_cases h:4000 < s.length
 ·have d1:decide ((4000:Int) < (s.length:Int))=true:=decide_eq_true (by omega)
  rw[if_pos h,if_pos h]
  repeat' (first|refine zB rfl d1 ?_|refine zA rfl ?_|refine aA ?_|refine aJ rfl ?_)
  exact⟨rfl,_,rfl,rfl,rfl⟩
 ·have d1:decide ((4000:Int) < (s.length:Int))=false:=decide_eq_false (by omega)
  rw[if_neg h,if_neg h]
  have kn:=jH (m:=s.length) (by omega)
  have hcat:=NU (a:=eU s.length) (b:=s) (by have:=fH s.length;omega)
  repeat' (first|refine zB rfl d1 ?_|refine zA rfl ?_|refine aA ?_|refine aJ rfl ?_|refine aD rfl kn ?_|refine lW rfl (hcat) ?_)
  exact⟨rfl,_,rfl,rfl,rfl⟩
theorem H6 (s:aG) (hs:s.length < 4611686018427387904):aN Tryz.prog 168 [.str s] (gtO (gZ s)):=by
 intro M
 refine aC aF Tryz.func168 rfl (by decide) (by simp[Tryz.f168]) ?_
 have kg:=kG s hs
 cases hg:bV s with
 |none=>
  rw[hg] at kg
  rw[yM hg]
  repeat' (first|refine zA rfl ?_|refine aA ?_|refine aJ rfl ?_|refine aD rfl kg ?_)
  exact⟨rfl,_,rfl,rfl,rfl⟩
 |some p=>
  obtain⟨n,r⟩:=p
  rw[hg] at kg
  have lr:=(eF hg).1
  by_cases h1:n≤4000
  ·have d1:decide ((4000:Int) < (n:Int))=false:=decide_eq_false (by omega)
   by_cases h2:n≤r.length
   ·have d2:decide ((r.length:Int) < (n:Int))=false:=decide_eq_false (by omega)
    rw[j8 hg,if_pos ⟨h1,h2⟩]
    have s1:(0:Int)≤0∧(0:Int)≤(n:Int)∧(n:Int)≤(r.length:Int)∧(r.take (n:Int).toNat).drop (0:Int).toNat=r.take n:=⟨by omega,by omega,by omega,by simp⟩
    have s2:(0:Int)≤(n:Int)∧(n:Int)≤(r.length:Int)∧(r.length:Int)≤(r.length:Int)∧(r.take (r.length:Int).toNat).drop (n:Int).toNat=r.drop n:=⟨by omega,by omega,by omega,by simp⟩
    repeat' (first|refine zB rfl (by first|exact d1|exact d2) ?_|refine zA rfl ?_|refine aA ?_|refine aJ rfl ?_|refine aD rfl kg ?_|refine i6 aF rfl (s1) ?_|refine i6 aF rfl (s2) ?_|refine aO mixed [0,1,2,3,4,5,6,7,8] [.P,.P,.P,.P,.P,.P,.P,.P,.P] rfl rfl (by kernel_rfl) ?_)
    exact⟨rfl,_,rfl,rfl,rfl⟩
   ·have d2:decide ((r.length:Int) < (n:Int))=true:=decide_eq_true (by omega)
    rw[j8 hg,if_neg (fun h=>h2 h.2)]
    repeat' (first|refine zB rfl (by first|exact d1|exact d2) ?_|refine zA rfl ?_|refine aA ?_|refine aJ rfl ?_|refine aD rfl kg ?_)
    exact⟨rfl,_,rfl,rfl,rfl⟩
  ·have d1:decide ((4000:Int) < (n:Int))=true:=decide_eq_true (by omega)
   rw[j8 hg,if_neg (fun h=>h1 h.1)]
   repeat' (first|refine zB rfl d1 ?_|refine zA rfl ?_|refine aA ?_|refine aJ rfl ?_|refine aD rfl kg ?_)
   exact⟨rfl,_,rfl,rfl,rfl⟩
theorem IP (s:aG) (hs:s.length < 4611686018427387904):aN Tryz.prog 130 [.str s] (gtO (gZ s)):=by
 intro M
 refine aC aF Tryz.func130 rfl (by decide) (by simp[Tryz.f130]) ?_
 have kg:=jB s hs
 cases hg:bV s with
 |none=>
  rw[hg] at kg
  rw[yM hg]
  repeat' (first|refine zA rfl ?_|refine aA ?_|refine aJ rfl ?_|refine aD rfl kg ?_)
  exact⟨rfl,_,rfl,rfl,rfl⟩
 |some p=>
  obtain⟨n,r⟩:=p
  rw[hg] at kg
  have lr:=(eF hg).1
  by_cases h1:n≤4000
  ·have d1:decide ((4000:Int) < (n:Int))=false:=decide_eq_false (by omega)
   by_cases h2:n≤r.length
   ·have d2:decide ((r.length:Int) < (n:Int))=false:=decide_eq_false (by omega)
    rw[j8 hg,if_pos ⟨h1,h2⟩]
    have s1:(0:Int)≤0∧(0:Int)≤(n:Int)∧(n:Int)≤(r.length:Int)∧(r.take (n:Int).toNat).drop (0:Int).toNat=r.take n:=⟨by omega,by omega,by omega,by simp⟩
    have s2:(0:Int)≤(n:Int)∧(n:Int)≤(r.length:Int)∧(r.length:Int)≤(r.length:Int)∧(r.take (r.length:Int).toNat).drop (n:Int).toNat=r.drop n:=⟨by omega,by omega,by omega,by simp⟩
    repeat' (first|refine zB rfl (by first|exact d1|exact d2) ?_|refine zA rfl ?_|refine aA ?_|refine aJ rfl ?_|refine aD rfl kg ?_|refine i6 aF rfl (s1) ?_|refine i6 aF rfl (s2) ?_|refine aO mixed [0,1,2,3,4,5,6,7,8] [.P,.P,.P,.P,.P,.P,.P,.P,.P] rfl rfl (by kernel_rfl) ?_)
    exact⟨rfl,_,rfl,rfl,rfl⟩
   ·have d2:decide ((r.length:Int) < (n:Int))=true:=decide_eq_true (by omega)
    rw[j8 hg,if_neg (fun h=>h2 h.2)]
    repeat' (first|refine zB rfl (by first|exact d1|exact d2) ?_|refine zA rfl ?_|refine aA ?_|refine aJ rfl ?_|refine aD rfl kg ?_)
    exact⟨rfl,_,rfl,rfl,rfl⟩
  ·have d1:decide ((4000:Int) < (n:Int))=true:=decide_eq_true (by omega)
   rw[j8 hg,if_neg (fun h=>h1 h.1)]
   repeat' (first|refine zB rfl d1 ?_|refine zA rfl ?_|refine aA ?_|refine aJ rfl ?_|refine aD rfl kg ?_)
   exact⟨rfl,_,rfl,rfl,rfl⟩
def mN (l:List aG) (t:eI):AV:=.sl 1 (l.map AV.str) t
theorem VD (l:List aG):∀x,x∈l.map AV.str→∀c,c∈x.cells→aP c:=by
 intro x hx c hc
 obtain⟨s,_,rfl⟩:=List.mem_map.1 hx
 have:c∈[AV.str s]:=hc
 exact aY aR c this
theorem kN (l:List aG) {t:eI} (h:t=.none∨t=.full):aP (mN l t):=c8 h (fun x hx=>by obtain⟨s,_,rfl⟩:=List.mem_map.1 hx;exact aR) (VD l)
def lU (l:List aG):aG:=l.flatMap jN
def jF (l:List aG):aG:=eU l.length++lU l
def gD (l:List aG):aG×Int:=if 1000 < l.length∨∃t,t∈l∧4000 < t.length then ([],2) else (jF l,0)
def iS:Nat→aG→Option (List aG×aG)
 |0,s=>some ([],s)
 |n+1,s=>match gZ s with
  |none=>none
  |some (t,r)=>match iS n r with
   |none=>none
   |some (l,q)=>some (t::l,q)
def mC (s:aG):Option (List aG×aG):=match bV s with
 |none=>none
 |some (n,r)=>if n≤1000 then iS n r else none
theorem rB (n:Nat) (s:aG):iS (n+1) s=match gZ s with
  |none=>none
  |some (t,r)=>match iS n r with
   |none=>none
   |some (l,q)=>some (t::l,q):=rfl
theorem C4:∀(l:List aG) (r:aG),(∀t,t∈l→t.length≤4000)→iS l.length (lU l++r)=some (l,r)
 |[],r,_=>rfl
 |t::l,r,h=>by
  have e:lU (t::l)++r=jN t++(lU l++r):=by simp[lU]
  rw[e,List.length_cons,rB,RX (h t (by simp))]
  show (match iS l.length (lU l++r) with
   |none=>none
   |some (l,q)=>some (t::l,q))=_
  rw[C4 l r (fun x hx=>h x (by simp[hx]))]
theorem Y5 {l:List aG} (h:(gD l).2=0) (r:aG):mC ((gD l).1++r)=some (l,r):=by
 unfold gD at h ⊢
 split at h
 ·cases h
 ·rename_i h1
  rw[if_neg h1]
  have hl:l.length≤1000:=by
   rcases Nat.lt_or_ge 1000 l.length with h2|h2
   ·exact absurd (.inl h2) h1
   ·exact h2
  have ht:∀t,t∈l→t.length≤4000:=by
   intro t hm
   rcases Nat.lt_or_ge 4000 t.length with h2|h2
   ·exact absurd (.inr ⟨t,hm,h2⟩) h1
   ·exact h2
  unfold mC jF
  rw[List.append_assoc,nS (by omega)]
  show (if _ then _ else _)=_
  rw[if_pos hl,C4 l r ht]
theorem DY:∀(n:Nat) {s r:aG} {l:List aG},iS n s=some (l,r)→l.length=n∧lU l++r=s∧∀t,t∈l→t.length≤4000
 |0,s,r,l,h=>by
  cases h
  exact⟨rfl,rfl,fun t ht=>by cases ht⟩
 |n+1,s,r,l,h=>by
  unfold iS at h
  split at h
  ·cases h
  ·rename_i t q e
   split at h
   ·cases h
   ·rename_i l' q' e2
    cases h
    obtain⟨h1,h2⟩:=D1 e
    obtain⟨h3,h4,h5⟩:=DY n e2
    refine⟨by simp[h3],?_,fun x hx=>?_⟩
    ·rw[←h2,←h4]
     simp[lU]
    ·rcases List.mem_cons.1 hx with rfl|hx
     ·exact h1
     ·exact h5 x hx
theorem y6 {s r:aG} {l:List aG} (h:mC s=some (l,r)):gD l=(jF l,0)∧jF l++r=s∧l.length≤1000∧∀t,t∈l→t.length≤4000:=by
 unfold mC at h
 split at h
 ·cases h
 ·rename_i n q e
  split at h
  ·rename_i hn
   obtain⟨h1,h2,h3⟩:=DY n h
   refine⟨?_,?_,by omega,h3⟩
   ·unfold gD
    rw[if_neg]
    rintro (h4|⟨t,ht,h4⟩)
    ·omega
    ·have:=h3 t ht
     omega
   ·unfold jF
    rw[h1,List.append_assoc,h2]
    exact (nD e).1
  ·cases h
def chT (c:Ch):List aG:=[c.path,(cI c.meta_ c.gone).1]
def dY (l:List Ch):List aG:=l.flatMap chT
def x5 (l:List Ch):aG×Int:=if cL l=true then gD (dY l) else ([],1)
def sC:List aG→Option (List Ch)
 |p::v::r=>if (bW v).2.2=0 then (match sC r with
  |none=>none
  |some l=>some (⟨p,(bW v).2.1,(bW v).1⟩::l)) else none
 |[]=>some []
 |[_]=>none
def l5 (s:aG):Option (List Ch):=match mC s with
 |none=>none
 |some (l,r)=>if r=[]∧l.length%2=0 then (match sC l with
  |none=>none
  |some m=>if cL m=true then some m else none) else none
theorem mX {c:Ch} (h:gE c=true):c.path≠[]∧cS c.path=true∧mV c.meta_=true∧(c.gone=true→c.meta_=dA):=by
 unfold gE at h
 simp only[Bool.and_eq_true,Bool.not_eq_true',beq_eq_false_iff_ne,ne_eq,Bool.or_eq_true] at h
 obtain⟨⟨⟨h1,h2⟩,h3⟩,h4⟩:=h
 refine⟨h1,h2,h3,fun hg=>?_⟩
 rcases h4 with h4|h4
 ·rw[hg] at h4
  cases h4
 ·unfold qT at h4
  simp only[Bool.and_eq_true,decide_eq_true_eq] at h4
  obtain⟨⟨a,b⟩,c'⟩:=h4
  have e:c.meta_.ch=[]:=List.eq_nil_of_length_eq_zero (by omega)
  cases hm:c.meta_ with
  |mk s m k=>
   rw[hm] at a b e
   simp only at a b e
   subst a b e
   rfl
theorem H8:∀(l:List Ch),(∀c,c∈l→gE c=true)→sC (dY l)=some l
 |[],_=>rfl
 |c::r,h=>by
  obtain⟨_,_,h3,h4⟩:=mX (h c (by simp))
  have e:dY (c::r)=c.path::(cI c.meta_ c.gone).1::dY r:=rfl
  rw[e]
  unfold sC
  rw[H8 r (fun x hx=>h x (by simp[hx]))]
  obtain⟨p,g,m⟩:=c
  cases g
  ·rw[oU h3]
   rfl
  ·rw[zL,←h4 rfl]
   rfl
theorem E0:∀l:List Int,(cX l).length≤5*l.length
 |[]=>Nat.le_refl _
 |x::r=>by
  have h1:=E0 r
  have h2:=fH x.toNat
  have e:cX (x::r)=eU x.toNat++cX r:=by simp[cX]
  rw[e,List.length_append,List.length_cons]
  omega
theorem CT {m:Mt} {g:Bool} (h:mV m=true):(cI m g).1.length≤100:=by
 unfold cI tX
 have hl:m.ch.length≤16:=by
  unfold mV at h
  simp only[Bool.and_eq_true,decide_eq_true_eq] at h
  exact h.2.2
 have:=E0 (g8 m)
 have e:(g8 m).length=3+m.ch.length:=by simp[g8];omega
 rw[e] at this
 rw[if_pos h]
 cases g
 ·rw[if_neg (by simp),if_pos rfl]
  show (1::cX (g8 m)).length≤100
  rw[List.length_cons]
  omega
 ·rw[if_pos rfl]
  simp
theorem uU {p:aG} (h:cS p=true):p.length≤4000:=by
 unfold cS at h
 simp at h
 rcases h with h1|h1
 ·rw[h1]
  simp
 ·omega
theorem mH:∀l:List Ch,(dY l).length=2*l.length
 |[]=>rfl
 |c::r=>by
  have:dY (c::r)=c.path::(cI c.meta_ c.gone).1::dY r:=rfl
  rw[this,List.length_cons,List.length_cons,mH r,List.length_cons]
  omega
theorem T4 {l:List Ch} (h:cL l=true):x5 l=(jF (dY l),0):=by
 obtain⟨_,h2,h3,_⟩:=iX h
 unfold x5 gD
 rw[if_pos h,if_neg]
 rintro (h4|⟨t,ht,h4⟩)
 ·rw[mH] at h4
  omega
 ·obtain⟨c,hc,ht⟩:=List.mem_flatMap.1 ht
  obtain⟨_,h5,h6,_⟩:=mX (h3 c hc)
  simp only[chT,List.mem_cons,List.not_mem_nil,or_false] at ht
  rcases ht with rfl|rfl
  ·have:=uU h5
   omega
  ·have:=CT (g:=c.gone) h6
   omega
theorem qU {l:List Ch} (h:cL l=true):l5 (jF (dY l))=some l:=by
 have hp:=T4 h
 have hr:gD (dY l)=(jF (dY l),0):=by
  have:=hp
  unfold x5 at this
  rwa [if_pos h] at this
 have h1:=Y5 (l:=dY l) (by rw[hr]) []
 rw[hr,List.append_nil] at h1
 unfold l5
 rw[h1]
 show (if _ then _ else _)=_
 rw[if_pos ⟨rfl,by rw[mH];omega⟩,H8 l (iX h).2.2.1]
 show (if _ then _ else _)=_
 rw[if_pos h]
theorem Z3 {r:aG} (hg:(fM r).2=0):mV (fM r).1=true∧cX (g8 (fM r).1)=r:=by
 unfold fM at hg ⊢
 cases hn:iY r with
 |none=>rw[hn] at hg;cases hg
 |some l=>
  rw[hn] at hg
  match l,hn,hg with
  |[],_,hg=>cases hg
  |[_],_,hg=>cases hg
  |[_,_],_,hg=>cases hg
  |a::b::c::l,hn,hg=>
   have e2:GY (some (a::b::c::l))=a5z a b c l:=rfl
   rw[e2] at hg ⊢
   unfold a5z at hg ⊢
   split at hg
   ·rename_i h5
    rw[if_pos h5]
    obtain⟨h6,_⟩:=GW r.length (Nat.le_refl _) hn
    refine⟨h5.2,?_⟩
    rw[←h6]
    unfold g8
    simp[nI,h5.1]
   ·cases hg
theorem BZ {v:aG} (h:(bW v).2.2=0):(cI (bW v).1 (bW v).2.1).1=v∧mV (bW v).1=true:=by
 match v,h with
 |[],h=>cases h
 |c::r,h=>
  have e:bW (c::r)=if c=0∧r=[] then (dA,true,0) else if c=1 then ((fM r).1,false,(fM r).2) else (dA,false,30):=rfl
  rw[e] at h ⊢
  split at h
  ·rename_i h1
   obtain⟨rfl,rfl⟩:=h1
   exact⟨rfl,rfl⟩
  ·rename_i h1
   rw[if_neg h1]
   split at h
   ·rename_i h2
    subst h2
    rw[if_pos rfl]
    have hg:(fM r).2=0:=h
    obtain⟨h3,h4⟩:=Z3 hg
    refine⟨?_,h3⟩
    show (cI (fM r).1 false).1=1::r
    unfold cI tX
    rw[if_neg (by simp),if_pos h3,if_pos rfl,h4]
   ·cases h
theorem KU:∀(l:List aG) {m:List Ch},sC l=some m→dY m=l
 |[],m,h=>by
  cases h
  rfl
 |[_],m,h=>by cases h
 |p::v::r,m,h=>by
  unfold sC at h
  split at h
  ·rename_i h1
   split at h
   ·cases h
   ·rename_i m' e
    cases h
    have e2:dY (⟨p,(bW v).2.1,(bW v).1⟩::m')=p::(cI (bW v).1 (bW v).2.1).1::dY m':=rfl
    rw[e2,(BZ h1).1,KU r e]
  ·cases h
theorem u6 {s:aG} {l:List Ch} (h:l5 s=some l):cL l=true∧x5 l=(s,0):=by
 unfold l5 at h
 split at h
 ·cases h
 ·rename_i k r e
  split at h
  ·rename_i h1
   obtain⟨rfl,_⟩:=h1
   split at h
   ·cases h
   ·rename_i m e2
    split at h
    ·rename_i hb
     cases h
     obtain⟨h3,h4,_,_⟩:=y6 e
     have h5:=KU k e2
     refine⟨hb,?_⟩
     unfold x5
     rw[if_pos hb,h5,h3]
     rw[List.append_nil] at h4
     rw[h4]
    ·cases h
  ·cases h
theorem D0 {l:List aG} {i:Nat} {t:aG} (h:l[i]? =some t):lU (l.take (i+1))=lU (l.take i)++jN t:=by
 unfold lU
 rw[b7 h]
 simp
theorem vO (t:aG):(jN t).length≤4005:=by
 unfold jN
 split
 ·simp
 ·have:=fH t.length
  rw[List.length_append]
  omega
theorem tK:∀l:List aG,(lU l).length≤4005*l.length
 |[]=>Nat.le_refl _
 |t::r=>by
  have h1:=tK r
  have h2:=vO t
  have e:lU (t::r)=jN t++lU r:=by simp[lU]
  rw[e,List.length_append,List.length_cons]
  omega
theorem D5 {l:List aG} (h:1000 < l.length):gD l=([],2):=by
 unfold gD
 rw[if_pos (.inl h)]
theorem IG {l:List aG} {t:aG} (hm:t∈l) (h:4000 < t.length):gD l=([],2):=by
 unfold gD
 rw[if_pos (.inr ⟨t,hm,h⟩)]
theorem QJ {l:List aG} (h1:l.length≤1000) (h2:∀t,t∈l→t.length≤4000):gD l=(jF l,0):=by
 unfold gD
 rw[if_neg]
 rintro (h|⟨t,ht,h⟩)
 ·omega
 ·have:=h2 t ht
  omega
theorem CE {l:List aG} (h:∀(j:Nat) t,j < l.length→l[j]? =some t→t.length≤4000):∀t,t∈l→t.length≤4000:=by
 intro t ht
 obtain⟨j,hj⟩:=List.mem_iff_getElem?.1 ht
 exact h j t (List.getElem?_eq_some_iff.1 hj).1 hj
theorem a0b (l:List aG) (tg:eI) (hl:l.length < 1000000) (hs:∀t,t∈l→t.length < 1000000):aN Tryz.prog 72 [mN l tg] (.tup [.str (gD l).1,.int .i64 (gD l).2]):=by
 intro M
 refine aC aF Tryz.func72 rfl (by decide) (by simp[Tryz.f72]) ?_
 have la:=aU AV.str l
 unfold mN
 by_cases h1:1000 < l.length
 ·have d1:decide ((1000:Int) < (l.length:Int))=true:=decide_eq_true (by omega)
  rw[D5 h1]
  repeat' (first|refine zB rfl d1 ?_|refine zI rfl la ?_|refine zA rfl ?_|refine aA ?_|refine aJ rfl ?_)
  exact⟨rfl,_,rfl,rfl,rfl⟩
 ·have d1:decide ((1000:Int) < (l.length:Int))=false:=decide_eq_false (by omega)
  have kn:=jH (m:=l.length) (by omega)
  repeat' (first|refine zB rfl d1 ?_|refine zI rfl la ?_|refine zA rfl ?_|refine aA ?_|refine aJ rfl ?_|refine aD rfl kn ?_)
  refine aX l.length (fun i f N=>N=M∧(∀(j:Nat) t,j < i→l[j]? =some t→t.length≤4000)∧f=⟨[(0,.sl 1 (l.map AV.str) tg),(4,.str (eU l.length++lU (l.take i))),(6,.int .i64 (i:Int))],[]⟩) (Nat.zero_le _) ⟨rfl,(fun j t hj=>absurd hj (Nat.not_lt_zero _)),by simp[lU];rfl⟩ (aM.le ?_ (aI.le_refl _)) ?_
  ·simp[lU]
   repeat (refine AF.le_cons rfl ?_)
   exact AF.le_nil rfl
  rintro i f N hi ⟨rfl,hb,rfl⟩
  by_cases g1:i < l.length
  ·have d2:decide ((i:Int) < (l.length:Int))=true:=by simp;omega
   have hy:l[i]? =some l[i]:=List.getElem?_eq_getElem g1
   have hm:=List.getElem_mem g1
   have fi:=aQ (i:=i) (by omega)
   have hc:=D0 hy
   generalize l[i]=t at hy hm hc
   have kt:=YL t (hs t hm)
   by_cases h2:4000 < t.length
   ·rw[IG hm h2]
    rw[if_pos h2] at kt
    repeat' (first|refine zB rfl d2 ?_|refine zI rfl (by first|exact fi|exact la) ?_|refine zA rfl ?_|refine aA ?_|refine aJ rfl ?_|refine aD rfl kt ?_|refine zX rfl (c7 hy) ?_)
    exact⟨rfl,_,rfl,rfl,rfl⟩
   ·rw[if_neg h2] at kt
    have hcat:=NU (a:=eU l.length++lU (l.take i)) (b:=jN t) (by
     have a1:=fH l.length
     have a2:=tK (l.take i)
     have a3:=vO t
     rw[List.length_append,List.length_take] at*
     omega)
    repeat' (first|refine zB rfl d2 ?_|refine zI rfl (by first|exact fi|exact la) ?_|refine zA rfl ?_|refine aA ?_|refine aJ rfl ?_|refine aD rfl kt ?_|refine zX rfl (c7 hy) ?_|refine lW rfl (hcat) ?_)
    refine⟨g1,_,_,⟨rfl,?_,rfl⟩,aM.le ?_ (aI.le_refl _)⟩
    ·intro j u hj hu
     by_cases hji:j=i
     ·subst hji
      rw[hy] at hu
      cases hu
      omega
     ·exact hb j u (by omega) hu
    ·rw[hc,←List.append_assoc]
     repeat (refine AF.le_cons rfl ?_)
     exact AF.le_nil rfl
  ·have d2:decide ((i:Int) < (l.length:Int))=false:=by simp;omega
   obtain rfl:i=l.length:=by omega
   rw[QJ (by omega) (CE hb),List.take_length]
   unfold jF
   repeat' (first|refine zB rfl d2 ?_|refine zI rfl la ?_|refine zA rfl ?_|refine aA ?_|refine aJ rfl ?_)
   exact⟨rfl,_,rfl,rfl,rfl⟩
theorem CB {s:aG} (h:bV s=none):mC s=none:=by
 unfold mC
 rw[h]
theorem DV {s r:aG} {n:Nat} (h:bV s=some (n,r)):mC s=if n≤1000 then iS n r else none:=by
 unfold mC
 rw[h]
def AtT (s:aG) (l:List aG) (q:aG):Prop:=∀k,iS (l.length+k) s=(iS k q).map fun p=>(l++p.1,p.2)
theorem QF (s:aG):AtT s [] s:=fun k=>by
 show iS (0+k) s=_
 rw[Nat.zero_add]
 cases iS k s<;>rfl
theorem IN {s q r t:aG} {l:List aG} (h:AtT s l q) (e:gZ q=some (t,r)):AtT s (l++[t]) r:=fun k=>by
 have h1:=h (k+1)
 rw[rB,e] at h1
 have e2:(l++[t]).length+k=l.length+(k+1):=by simp;omega
 rw[e2,h1]
 show Option.map _ (match iS k r with
   |none=>none
   |some (l',q')=>some (t::l',q'))=_
 cases iS k r<;>simp
theorem KO {s q:aG} {l:List aG} {n:Nat} (h:AtT s l q) (e:gZ q=none) (hk:l.length < n):iS n s=none:=by
 have h1:=h (n - l.length - 1+1)
 rw[rB,e] at h1
 rw[show n=l.length+(n - l.length - 1+1) by omega]
 exact h1
theorem Q1 {s q:aG} {l:List aG} (h:AtT s l q):iS l.length s=some (l,q):=by
 have h1:=h 0
 rw[Nat.add_zero] at h1
 rw[h1]
 simp[iS]
theorem IW {q r t:aG} (e:gZ q=some (t,r)):r.length≤q.length:=by
 have h:=congrArg List.length (D1 e).2
 rw[List.length_append] at h
 omega
def grA:Option (List aG×aG)→AV
 |some (l,r)=>.tup [mN l .none,.str r,.bool true]
 |none=>.tup [mN [] .none,.str [],.bool false]
theorem A2 (x:Option (List aG×aG)):aP (grA x):=by
 cases x with
 |none=>exact aW (cD (kN _ (.inl rfl)) aR aL)
 |some p=>exact aW (cD (kN _ (.inl rfl)) aR aL)
theorem qF {k:Nat}:aH k (.tup [.sl 0 [] .full,.str [],.bool false]) (grA none):=aH.tup3 aH.nil (aH.of_closed aR) (aH.of_closed aL)
theorem I4 (l:List aG) (x:aG) {i g:Nat}:AV.sl 1 ((l++[x]).map AV.str) (.tok i g)=.sl 1 (l.map AV.str++[.str x]) (.tok i g):=by simp
theorem L8 (s:aG) (hs:s.length < 1000000):aN Tryz.prog 76 [.str s] (grA (mC s)):=by
 refine aT (aY aR) (A2 _) ?_
 refine aC aF Tryz.func76 rfl (by decide) (by simp[Tryz.f76]) ?_
 have kg:=jB s (by omega)
 cases hg:bV s with
 |none=>
  rw[hg] at kg
  rw[CB hg]
  repeat' (first|refine zA rfl ?_|refine aA ?_|refine aJ rfl ?_|refine aD rfl kg ?_)
  exact⟨rfl,_,rfl,_,rfl,qF⟩
 |some p=>
  obtain⟨n,r⟩:=p
  rw[hg] at kg
  have lr:=(eF hg).1
  rw[DV hg]
  by_cases h1:n≤1000
  ·have d1:decide ((1000:Int) < (n:Int))=false:=decide_eq_false (by omega)
   rw[if_pos h1]
   repeat' (first|refine zB rfl d1 ?_|refine zA rfl ?_|refine aA ?_|refine aJ rfl ?_|refine aD rfl kg ?_)
   refine aX n (fun i f N=>∃l q g,l.length=i∧AtT r l q∧q.length≤r.length∧N=tokM g∧f=⟨[(5,.int .i64 (n:Int)),(6,.str q),(8,mN l (.tok 0 g)),(9,.int .i64 (i:Int))],[]⟩) (Nat.zero_le _) ⟨[],r,0,rfl,QF r,Nat.le_refl _,rfl,rfl⟩ ((aM.tok 8 rfl (sz':=1) (.inr rfl)).trans (aM.le ?_ (cK rfl rfl))) ?_
   ·unfold mN
    repeat (refine AF.le_cons rfl ?_)
    exact AF.le_nil rfl
   rintro i f N hi ⟨l,q,g,rfl,am,lq,rfl,rfl⟩
   unfold mN
   have lm:=aU AV.str l
   by_cases g1:l.length < n
   ·have d2:decide ((l.length:Int) < (n:Int))=true:=decide_eq_true (by omega)
    have fi:=aQ (i:=l.length) (by omega)
    have kt:=IP q (by omega)
    cases ht:gZ q with
    |none=>
     rw[ht] at kt
     rw[KO am ht g1]
     repeat' (first|refine zB rfl d2 ?_|refine zA rfl ?_|refine aA ?_|refine aJ rfl ?_|refine aD rfl kt ?_)
     exact⟨rfl,_,rfl,_,rfl,qF⟩
    |some p=>
     obtain⟨t,q2⟩:=p
     rw[ht] at kt
     have am2:=IN am ht
     have lr2:=IW ht
     repeat' (first|refine zB rfl d2 ?_|refine zI rfl fi ?_|refine zA rfl ?_|refine aA ?_|refine aJ rfl ?_|refine aD rfl kt ?_|refine zR rfl ?_|refine zP rfl rfl ?_)
     refine⟨g1,_,_,⟨l++[t],q2,g+1,by simp,am2,by omega,rfl,rfl⟩,aM.le ?_ (cK rfl rfl)⟩
     rw[I4]
     repeat (refine AF.le_cons rfl ?_)
     exact AF.le_nil rfl
   ·have d2:decide ((l.length:Int) < (n:Int))=false:=decide_eq_false (by omega)
    obtain rfl:l.length=n:=by omega
    rw[Q1 am]
    have hc:=kN l (t:=.none) (.inl rfl)
    unfold mN at hc
    repeat' (first|refine zB rfl d2 ?_|refine zA rfl ?_|refine aA ?_|refine aJ rfl ?_)
    exact⟨rfl,_,rfl,_,rfl,aH.tup3 (aH.untag hc) (aH.of_closed aR) (aH.of_closed aL)⟩
  ·have d1:decide ((1000:Int) < (n:Int))=true:=decide_eq_true (by omega)
   rw[if_neg h1]
   repeat' (first|refine zB rfl d1 ?_|refine zA rfl ?_|refine aA ?_|refine aJ rfl ?_|refine aD rfl kg ?_)
   exact⟨rfl,_,rfl,_,rfl,qF⟩
def rI (s:aG) (e:dG) (d:List AV):Prop:=match gZ s with
 |none=>e=.ret (.tup [.str [],.str [],.bool false])∧d=[.str []]
 |some (t,r)=>e=.ret (.tup [.str t,.str r,.bool true])∧d=[.str r]
theorem T8 (s:aG):aS Tryz.prog 126 [.str s] ⟨0,[]⟩ (fun e N=>e=.ret (.fn (.func 167) [] [.ptr 0 0])∧N=⟨1,[(0,.cells [.str s])]⟩):=by
 refine aC aF Tryz.func126 rfl (by decide) (by simp[Tryz.f126]) ?_
 repeat' (first|refine dV 1 aF rfl ?_|refine zA rfl ?_|refine aA ?_|refine aJ rfl ?_)
 exact⟨rfl,_,rfl,rfl,rfl⟩
theorem a1k (s:aG) (hs:s.length < 4611686018427387904):aS Tryz.prog 167 [.ptr 0 0] ⟨1,[(0,.cells [.str s])]⟩ (fun e N=>N.next=1∧∃d,N.get 0=some (.cells d)∧rI s e d):=by
 refine aC aF Tryz.func167 rfl (by decide) (by simp[Tryz.f167]) ?_
 have kt:=H6 s hs
 unfold rI
 cases ht:gZ s with
 |none=>
  rw[ht] at kt
  repeat' (first|refine zA rfl ?_|refine aA ?_|refine aJ rfl ?_|refine aD rfl kt ?_|refine aO mixed [0,2,3,1,4,5] [.P,.R,.P,.P,.P,.P] rfl rfl (by kernel_rfl) ?_)
  exact⟨rfl,_,rfl,rfl,_,rfl,rfl,rfl⟩
 |some p=>
  obtain⟨t,r⟩:=p
  rw[ht] at kt
  repeat' (first|refine zA rfl ?_|refine aA ?_|refine aJ rfl ?_|refine aD rfl kt ?_|refine aO mixed [0,2,3,1,4,5] [.P,.R,.P,.P,.P,.P] rfl rfl (by kernel_rfl) ?_)
  exact⟨rfl,_,rfl,rfl,_,rfl,rfl,rfl⟩
theorem D9 {M:aI} {id:Nat} {s:aG} (hM:M.get id=some (.cells [.str s])) (hlt:id < M.next) (hs:s.length < 4611686018427387904):
  aS Tryz.prog 167 [.ptr id 0] M fun e N=>∃d,rI s e d∧N=M.set id (.cells d):=by
 refine aS.frame1 id hM hlt (aY aR) (a1k s hs) ⟨lZ.ptr rfl,trivial⟩ ?_
 intro e d h
 refine⟨?_,?_,d,h,rfl⟩
 ·unfold rI at h
  split at h
  ·obtain⟨rfl,_⟩:=h
   exact aW (cD aR aR aL)
  ·obtain⟨rfl,_⟩:=h
   exact aW (cD aR aR aL)
 ·unfold rI at h
  split at h
  ·obtain⟨_,rfl⟩:=h
   exact aY aR
  ·obtain⟨_,rfl⟩:=h
   exact aY aR
theorem LH {M:aI} {id:Nat} {s:aG} (ht:gZ s=none) (hM:M.get id=some (.cells [.str s])) (hlt:id < M.next) (hs:s.length < 4611686018427387904):
  aS Tryz.prog 167 [.ptr id 0] M fun e N=>e=.ret (.tup [.str [],.str [],.bool false])∧N=M.set id (.cells [.str []]):=by
 refine (D9 hM hlt hs).mono ?_
 rintro e N ⟨d,h,rfl⟩
 unfold rI at h
 rw[ht] at h
 obtain⟨rfl,rfl⟩:=h
 exact⟨rfl,rfl⟩
theorem MV {M:aI} {id:Nat} {s t r:aG} (ht:gZ s=some (t,r)) (hM:M.get id=some (.cells [.str s])) (hlt:id < M.next) (hs:s.length < 4611686018427387904):
  aS Tryz.prog 167 [.ptr id 0] M fun e N=>e=.ret (.tup [.str t,.str r,.bool true])∧N=M.set id (.cells [.str r]):=by
 refine (D9 hM hlt hs).mono ?_
 rintro e N ⟨d,h,rfl⟩
 unfold rI at h
 rw[ht] at h
 obtain⟨rfl,rfl⟩:=h
 exact⟨rfl,rfl⟩
def grM (q:aG) (g:Nat):aI:=⟨2,[(0,.cells [.str q]),(1,.spare g)]⟩
def grF (n:Nat) (l:List aG) (q:aG) (g i:Nat):AF:=⟨[(6,.str q),(8,mN l (.tok 1 g)),(9,.fn (.func 167) [] [.ptr 0 0]),(27,.int .i64 (n:Int)),(28,.int .i64 (i:Int))],[]⟩
theorem LN (s:aG) (hs:s.length < 1000000):aN Tryz.prog 73 [.str s] (grA (mC s)):=by
 refine aT (aY aR) (A2 _) ?_
 refine aC aF Tryz.func73 rfl (by decide) (by simp[Tryz.f73]) ?_
 have kg:=kG s (by omega)
 cases hg:bV s with
 |none=>
  rw[hg] at kg
  rw[CB hg]
  repeat' (first|refine zA rfl ?_|refine aA ?_|refine aJ rfl ?_|refine aD rfl kg ?_)
  exact⟨rfl,_,rfl,_,rfl,qF⟩
 |some p=>
  obtain⟨n,r⟩:=p
  rw[hg] at kg
  have lr:=(eF hg).1
  rw[DV hg]
  by_cases h1:n≤1000
  ·have d1:decide ((1000:Int) < (n:Int))=false:=decide_eq_false (by omega)
   rw[if_pos h1]
   repeat' (first|refine zB rfl d1 ?_|refine zA rfl ?_|refine aA ?_|refine aJ rfl ?_|refine aD rfl kg ?_|refine cU rfl rfl (T8 r) ?_ ?_)
   rotate_left
   ·intro u M' h
    cases h.1
   rintro u M' ⟨e,rfl⟩
   cases e
   repeat' (first|refine zA rfl ?_|refine aA ?_|refine aJ rfl ?_)
   refine aX n (fun i f N=>∃l q g,l.length=i∧AtT r l q∧q.length≤r.length∧N=grM q g∧f=grF n l q g i) (Nat.zero_le _) ⟨[],r,0,rfl,QF r,Nat.le_refl _,rfl,rfl⟩ ((aM.tok 8 rfl (sz':=1) (.inr rfl)).trans (aM.le ?_ (aI.le_cons rfl (aI.le_cons rfl (aI.le_nil rfl))))) ?_
   ·unfold grF mN
    repeat (refine AF.le_cons rfl ?_)
    exact AF.le_nil rfl
   rintro i f N hi ⟨l,q,g,rfl,am,lq,rfl,rfl⟩
   unfold grF mN
   have lm:=aU AV.str l
   by_cases g1:l.length < n
   ·have d2:decide ((l.length:Int) < (n:Int))=true:=decide_eq_true (by omega)
    have fi:=aQ (i:=l.length) (by omega)
    cases ht:gZ q with
    |none=>
     rw[KO am ht g1]
     repeat' (first|refine zB rfl d2 ?_|refine zA rfl ?_|refine aA ?_|refine aJ rfl ?_)
     refine cU rfl rfl (LH ht rfl (by show 0 < 2;decide) (by omega)) ?_ ?_
     rotate_left
     ·rintro u N ⟨h,_⟩
      cases h
     rintro u N ⟨h,rfl⟩
     cases h
     repeat' (first|refine zA rfl ?_|refine aA ?_|refine aJ rfl ?_)
     exact⟨rfl,_,rfl,_,rfl,qF⟩
    |some p=>
     obtain⟨t,q2⟩:=p
     have am2:=IN am ht
     have lr2:=IW ht
     repeat' (first|refine zB rfl d2 ?_|refine zA rfl ?_|refine aA ?_|refine aJ rfl ?_)
     refine cU rfl rfl (MV ht rfl (by show 0 < 2;decide) (by omega)) ?_ ?_
     rotate_left
     ·rintro u N ⟨h,_⟩
      cases h
     rintro u N ⟨h,rfl⟩
     cases h
     repeat' (first|refine zI rfl fi ?_|refine zA rfl ?_|refine aA ?_|refine aJ rfl ?_|refine zR rfl ?_|refine zP rfl rfl ?_)
     refine⟨g1,grF n (l++[t]) q2 (g+1) (l.length+1),grM q2 (g+1),⟨l++[t],q2,g+1,by simp,am2,by omega,rfl,rfl⟩,aM.le ?_ (aI.le_cons rfl (aI.le_cons rfl (aI.le_nil rfl)))⟩
     unfold grF mN
     rw[I4]
     repeat (refine AF.le_cons rfl ?_)
     exact AF.le_nil rfl
   ·have d2:decide ((l.length:Int) < (n:Int))=false:=decide_eq_false (by omega)
    obtain rfl:l.length=n:=by omega
    rw[Q1 am]
    have hc:=kN l (t:=.none) (.inl rfl)
    unfold mN at hc
    repeat' (first|refine zB rfl d2 ?_|refine zA rfl ?_|refine aA ?_|refine aJ rfl ?_)
    exact⟨rfl,_,rfl,_,rfl,aH.tup3 (aH.untag hc) (aH.of_closed aR) (aH.of_closed aL)⟩
  ·have d1:decide ((1000:Int) < (n:Int))=true:=decide_eq_true (by omega)
   rw[if_neg h1]
   repeat' (first|refine zB rfl d1 ?_|refine zA rfl ?_|refine aA ?_|refine aJ rfl ?_|refine aD rfl kg ?_)
   exact⟨rfl,_,rfl,_,rfl,qF⟩
theorem TX {t:aG} (h:¬4000 < t.length):jN t≠[]:=by
 unfold jN
 rw[if_neg h]
 simp[eU]
theorem a3j (l:List aG) (tg:eI) (htg:tg=.none∨tg=.full) (hl:l.length < 1000000) (hs:∀t,t∈l→t.length < 1000000):aN Tryz.prog 70 [mN l tg] (.tup [.str (gD l).1,.int .i64 (gD l).2]):=by
 refine aT (aY (kN l htg)) (aW (aZ aR aB)) ?_
 refine aC aF Tryz.func70 rfl (by decide) (by simp[Tryz.f70]) ?_
 have la:=aU AV.str l
 unfold mN
 by_cases h1:1000 < l.length
 ·have d1:decide ((1000:Int) < (l.length:Int))=true:=decide_eq_true (by omega)
  rw[D5 h1]
  repeat' (first|refine zB rfl d1 ?_|refine zI rfl la ?_|refine zA rfl ?_|refine aA ?_|refine aJ rfl ?_)
  exact⟨rfl,_,rfl,_,rfl,aH.of_closed (aW (aZ aR aB))⟩
 ·have d1:decide ((1000:Int) < (l.length:Int))=false:=decide_eq_false (by omega)
  have kn:=nP (m:=l.length) (by omega)
  have lp:=fH l.length
  repeat' (first|refine MW rfl x6.v72 ?_|refine zB rfl d1 ?_|refine zI rfl la ?_|refine zA rfl ?_|refine aA ?_|refine aJ rfl ?_|refine aD rfl kn ?_)
  refine cU rfl rfl (zJ (k:=1) (by decide) (bs:=[]) (.inl ⟨rfl,rfl⟩) (by simp[eU]) (by simp;omega)) ?_ (fun u M' h=>by cases h.1)
  rintro u N' ⟨e,N2,hN2,hle⟩
  cases e
  repeat' (first|refine zI rfl la ?_|refine zA rfl ?_|refine aA ?_|refine aJ rfl ?_)
  refine aX l.length (fun i f N=>RL 1 (eU l.length++lU (l.take i)) N∧(∀(j:Nat) t,j < i→l[j]? =some t→t.length≤4000)∧f=⟨[(4,.ptr 0 0),(6,.int .i64 0),(22,.sl 1 (l.map AV.str) tg),(23,.int .i64 (l.length:Int)),(24,.int .i64 (i:Int))],[]⟩) (Nat.zero_le _) ⟨by simpa [lU] using hN2,(fun j t hj=>absurd hj (Nat.not_lt_zero _)),rfl⟩ (aM.le ?_ hle) ?_
  ·skip
   repeat (refine AF.le_cons rfl ?_)
   exact AF.le_nil rfl
  rintro i f N hi ⟨hN,hb,rfl⟩
  have a1:=fH l.length
  have a2:=tK (l.take i)
  rw[List.length_take] at a2
  by_cases g1:i < l.length
  ·have d2:decide ((i:Int) < (l.length:Int))=true:=by simp;omega
   have hy:l[i]? =some l[i]:=List.getElem?_eq_getElem g1
   have hm:=List.getElem_mem g1
   have fi:=aQ (i:=i) (by omega)
   have hc:=D0 hy
   generalize l[i]=t at hy hm hc
   have kt:=ZF t (hs t hm)
   by_cases h2:4000 < t.length
   ·rw[IG hm h2]
    rw[if_pos h2] at kt
    repeat' (first|refine zB rfl d2 ?_|refine zA rfl ?_|refine aA ?_|refine aJ rfl ?_|refine aD rfl kt ?_|refine zX rfl (c7 hy) ?_)
    exact⟨rfl,_,rfl,_,rfl,aH.of_closed (aW (aZ aR aB))⟩
   ·rw[if_neg h2] at kt
    have a3:=vO t
    repeat' (first|refine zB rfl d2 ?_|refine zA rfl ?_|refine aA ?_|refine aJ rfl ?_|refine aD rfl kt ?_|refine zX rfl (c7 hy) ?_)
    refine cU rfl rfl (zJ (by decide) hN (TX h2) (by rw[List.length_append];omega)) ?_ (fun u M' h=>by cases h.1)
    rintro u N' ⟨e,N3,hN3,hle3⟩
    cases e
    repeat' (first|refine zI rfl fi ?_|refine zA rfl ?_|refine aA ?_|refine aJ rfl ?_)
    refine⟨g1,_,_,⟨?_,?_,rfl⟩,aM.le ?_ hle3⟩
    ·rw[hc,←List.append_assoc]
     exact hN3
    ·intro j u hj hu
     by_cases hji:j=i
     ·subst hji
      rw[hy] at hu
      cases hu
      omega
     ·exact hb j u (by omega) hu
    ·skip
     repeat (refine AF.le_cons rfl ?_)
     exact AF.le_nil rfl
  ·have d2:decide ((i:Int) < (l.length:Int))=false:=by simp;omega
   obtain rfl:i=l.length:=by omega
   rw[List.take_length] at hN a2
   rw[QJ (by omega) (CE hb)]
   unfold jF
   repeat' (first|refine zB rfl d2 ?_|refine aA ?_|refine aJ rfl ?_)
   refine cU rfl rfl (PA (by decide) hN (by simp[eU]) (by rw[List.length_append];omega)) ?_ (fun u M' h=>by cases h.1)
   rintro u N' ⟨e,hn⟩
   cases e
   repeat' (first|refine zA rfl ?_|refine aA ?_|refine aJ rfl ?_)
   exact⟨rfl,_,rfl,_,rfl,aH.of_closed (aW (aZ aR aB))⟩
theorem a1i {k id g:Nat} (hk:id < k) (l:List Ch) (x:Ch):aH k (.sl 5 (l.map Ch.av++[x.av]) (.tok id g)) (gS (l++[x]) (.tok id g)):=by
 unfold gS
 rw[List.map_append]
 exact aH.tok (decide_eq_true hk) (by
  intro y hy c hc
  refine CH (l++[x]) y ?_ c hc
  rw[List.map_append]
  exact hy)
theorem HZ {α:Type} {f:α→AV} {l:List α} {n:Nat} (h:n≤l.length):(0:Int)≤0∧(0:Int)≤(n:Int)∧(n:Int)≤((l.map f).length:Int)∧((l.map f).take (n:Int).toNat).drop (0:Int).toNat=(l.take n).map f:=⟨by omega,by omega,by simp;omega,by simp⟩
theorem q7 {α:Type} {f:α→AV} {l:List α} {n:Nat} (h:n≤l.length):(0:Int)≤(n:Int)∧(n:Int)≤((l.map f).length:Int)∧((l.map f).length:Int)≤((l.map f).length:Int)∧((l.map f).take ((l.map f).length:Int).toNat).drop (n:Int).toNat=(l.drop n).map f:=⟨by omega,by simp;omega,Int.le_refl _,by
 have:(l.map f).take ((l.map f).length:Int).toNat=l.map f:=List.take_of_length_le (by simp)
 rw[this]
 simp⟩
def nmA (x:List Ch×Int):AV:=.tup [gS x.1 .none,.int .i64 x.2]
theorem MZ (x:List Ch×Int):aP (nmA x):=aW (aZ (eN _ (.inl rfl)) aB)
theorem IV (a b:List Ch):dY (a++b)=dY a++dY b:=by simp[dY]
theorem yW {l:List Ch} (h:∀c,c∈l→gE c=true):∀t,t∈dY l→t.length≤4000:=by
 intro t ht
 obtain⟨c,hc,ht⟩:=List.mem_flatMap.1 ht
 obtain⟨_,h5,h6,_⟩:=mX (h c hc)
 simp only[chT,List.mem_cons,List.not_mem_nil,or_false] at ht
 rcases ht with rfl|rfl
 ·exact uU h5
 ·have:=CT (g:=c.gone) h6
  omega
theorem a2d (l:List aG) (x y:aG) {i g:Nat}:AV.sl 1 ((l++[x,y]).map AV.str) (.tok i g)=.sl 1 (l.map AV.str++[.str x]++[.str y]) (.tok i g):=by simp
theorem Z5 (l:List aG) (x y:aG) {i g:Nat}:AV.sl 1 ((l++[x,y]).map AV.str) (.tok i g)=.sl 1 (l.map AV.str++[.str x,.str y]) (.tok i g):=by simp
def pcA (x:aG×Int):AV:=.tup [.str x.1,.int .i64 x.2]
theorem j5 (x:aG×Int):aP (pcA x):=aW (aZ aR aB)
theorem OX {l:List Ch} (h:cL l=false):x5 l=([],1):=by
 unfold x5
 rw[if_neg (by simp[h])]
theorem HO {l:List Ch} (h:cL l=true):x5 l=gD (dY l):=by
 unfold x5
 rw[if_pos h]
theorem UP (l:List Ch) (tg:eI) (htg:tg=.none∨tg=.full) (hl:l.length < 1000000) (hs:∀c,c∈l→fE c):aN Tryz.prog 32 [gS l tg] (pcA (x5 l)):=by
 refine aT (aY (eN l htg)) (j5 _) ?_
 refine aC aF Tryz.func32 rfl (by decide) (by simp[Tryz.f32]) ?_
 have la:=aU Ch.av l
 have kb:=qE l tg hl hs
 unfold gS at*
 cases h:cL l
 ·rw[h] at kb
  rw[OX h]
  repeat' (first|refine zA rfl ?_|refine aA ?_|refine aJ rfl ?_|refine aD rfl kb ?_)
  exact⟨rfl,_,rfl,_,rfl,aH.of_closed (j5 ([],1))⟩
 ·rw[h] at kb
  rw[HO h]
  obtain⟨_,h20,hm,_⟩:=iX h
  have hT:=yW hm
  repeat' (first|refine zA rfl ?_|refine aA ?_|refine aJ rfl ?_|refine aD rfl kb ?_)
  refine aX l.length (fun i f N=>∃g,N=tokM g∧f=⟨[(0,.sl 5 (l.map Ch.av) tg),(4,mN (dY (l.take i)) (.tok 0 g)),(5,.int .i64 (i:Int))],[]⟩) (Nat.zero_le _) ⟨0,rfl,rfl⟩ ((aM.tok 4 rfl (sz':=1) (.inr rfl)).trans (aM.le ?_ (cK rfl rfl))) ?_
  ·unfold mN dY
   repeat (refine AF.le_cons rfl ?_)
   exact AF.le_nil rfl
  rintro i f N hi ⟨g,rfl,rfl⟩
  unfold mN
  have lr:=aU AV.str (dY (l.take i))
  have lr2:=mH (l.take i)
  rw[List.length_take] at lr2
  by_cases g1:i < l.length
  ·have d1:decide ((i:Int) < (l.length:Int))=true:=decide_eq_true (by omega)
   have hx:l[i]? =some l[i]:=List.getElem?_eq_getElem g1
   have fi:=aQ (i:=i) (by omega)
   have ht:=b7 hx
   have hmm:=List.getElem_mem g1
   generalize l[i]=x at hx ht hmm
   have kv:=DX x.meta_ x.gone (hs x hmm).2
   have eC:dY (l.take (i+1))=dY (l.take i)++[x.path,(cI x.meta_ x.gone).1]:=by rw[ht,IV];rfl
   repeat' (first|refine zB rfl d1 ?_|refine zI rfl (by first|exact la|exact fi) ?_|refine zA rfl ?_|refine aA ?_|refine aJ rfl ?_|refine aD rfl kv ?_|refine zX rfl (c7 hx) ?_|refine zR rfl ?_|refine zP rfl rfl ?_|refine aO mixed [0,1,5,6,2,3,4,7,8,9,10,11,12,13,14,15] [.P,.P,.R,.R,.R,.P,.P,.R,.R,.R,.P,.P,.P,.P,.P,.P] rfl rfl (by kernel_rfl) ?_)
   refine⟨g1,_,_,⟨g+1+1,rfl,rfl⟩,aM.le ?_ (cK rfl rfl)⟩
   rw[eC,a2d]
   repeat (refine AF.le_cons rfl ?_)
   exact AF.le_nil rfl
  ·have d1:decide ((i:Int) < (l.length:Int))=false:=decide_eq_false (by omega)
   obtain rfl:i=l.length:=by omega
   rw[List.take_length] at lr2 lr ⊢
   have kr:=a0b (dY l) (.tok 0 g) (by omega) (fun t ht=>by have:=hT t ht;omega)
   unfold mN at kr
   have hcl:=j5 (gD (dY l))
   generalize gD (dY l)=z at*
   repeat' (first|refine zB rfl d1 ?_|refine zI rfl la ?_|refine zA rfl ?_|refine aA ?_|refine aJ rfl ?_|refine aD rfl kr ?_)
   exact⟨rfl,_,rfl,_,rfl,aH.of_closed hcl⟩
def pB (c:Ch):Bool:=decide (200 < c.path.length)||decide (30 < c.meta_.ch.length)
def ND (l:List Ch):Bool:=decide (50 < l.length)||l.any pB
theorem a2q {l:List Ch} (h:ND l=false):l.length≤50∧∀c,c∈l→c.path.length≤200∧c.meta_.ch.length≤30:=by
 unfold ND pB at h
 simp only[Bool.or_eq_false_iff,decide_eq_false_iff_not,List.any_eq_false,Bool.or_eq_true,decide_eq_true_eq,not_or] at h
 exact⟨by omega,fun p hp=>by have:=h.2 p hp;omega⟩
theorem a1c (l:List Ch) (tg:eI) (hl:l.length < 4611686018427387904):aN Tryz.prog 26 [gS l tg] (.bool (ND l)):=by
 intro M
 refine aC aF Tryz.func26 rfl (by decide) (by simp[Tryz.f26]) ?_
 have la:=aU Ch.av l
 unfold ND gS
 by_cases h80:50 < l.length
 ·have d1:decide ((0:Int) < (l.length:Int))=true:=by simp;omega
  have d2:decide ((l.length:Int)≤50)=false:=by simp;omega
  have d3:decide ((50:Int) < (l.length:Int))=true:=by simp;omega
  have e:decide (50 < l.length)=true:=by simp[h80]
  rw[e]
  repeat' (first|refine zA rfl ?_|refine aA ?_|refine aJ rfl ?_)
  refine aX 0 (fun i f N=>N=M∧f=⟨[(0,.sl 5 (l.map Ch.av) tg),(3,.int .i64 (i:Int))],[]⟩) (Nat.zero_le _) ⟨rfl,rfl⟩ (aM.le ?_ (aI.le_refl _)) ?_
  ·skip
   repeat (refine AF.le_cons rfl ?_)
   exact AF.le_nil rfl
  rintro i f N hi ⟨rfl,rfl⟩
  obtain rfl:i=0:=by omega
  repeat' (first|refine zB rfl (by first|exact d1|exact d2|exact d3) ?_|refine zI rfl la ?_|refine zA rfl ?_|refine aA ?_|refine aJ rfl ?_)
  exact⟨rfl,_,rfl,rfl,rfl⟩
 ·have d2:decide ((l.length:Int)≤50)=true:=by simp;omega
  have d3:decide ((50:Int) < (l.length:Int))=false:=by simp;omega
  have e:decide (50 < l.length)=false:=by simp;omega
  rw[e,Bool.false_or]
  repeat' (first|refine zA rfl ?_|refine aA ?_|refine aJ rfl ?_)
  refine aX l.length (fun i f N=>N=M∧((l.take i).any pB=false)∧f=⟨[(0,.sl 5 (l.map Ch.av) tg),(3,.int .i64 (i:Int))],[]⟩) (Nat.zero_le _) ⟨rfl,by simp,rfl⟩ (aM.le ?_ (aI.le_refl _)) ?_
  ·skip
   repeat (refine AF.le_cons rfl ?_)
   exact AF.le_nil rfl
  rintro i f N hi ⟨rfl,hinv,rfl⟩
  by_cases h1:i < l.length
  ·have d1:decide ((i:Int) < (l.length:Int))=true:=by simp;omega
   have hx:l[i]? =some l[i]:=List.getElem?_eq_getElem h1
   have fi:=aQ (i:=i) (by omega)
   have ht:=b7 hx
   have hm:=List.getElem_mem h1
   generalize l[i]=x at hx ht hm
   have e2:(l.take (i+1)).any pB=pB x:=by rw[ht,List.any_append,hinv];simp
   have hs:pB x=true→l.any pB=true:=fun h=>List.any_eq_true.2 ⟨x,List.mem_of_getElem? hx,h⟩
   have lx:=aU (fun n=>AV.int .i64 n) x.meta_.ch
   unfold pB at hs e2
   by_cases h5:200 < x.path.length
   ·have d5:decide ((200:Int) < (x.path.length:Int))=true:=by simp;omega
    rw[show l.any pB=true from hs (by simp[h5])]
    repeat' (first|refine zB rfl (by first|exact d1|exact d2|exact d5) ?_|refine zI rfl la ?_|refine zA rfl ?_|refine aA ?_|refine aJ rfl ?_|refine zX rfl (c7 hx) ?_)
    exact⟨rfl,_,rfl,rfl,rfl⟩
   ·have d5:decide ((200:Int) < (x.path.length:Int))=false:=by simp;omega
    by_cases h6:30 < x.meta_.ch.length
    ·have d6:decide ((30:Int) < (x.meta_.ch.length:Int))=true:=by simp;omega
     rw[show l.any pB=true from hs (by simp[h6])]
     repeat' (first|refine zB rfl (by first|exact d1|exact d2|exact d5|exact d6) ?_|refine zI rfl (by first|exact la|exact lx) ?_|refine zA rfl ?_|refine aA ?_|refine aJ rfl ?_|refine zX rfl (c7 hx) ?_)
     exact⟨rfl,_,rfl,rfl,rfl⟩
    ·have d6:decide ((30:Int) < (x.meta_.ch.length:Int))=false:=by simp;omega
     repeat' (first|refine zB rfl (by first|exact d1|exact d2|exact d5|exact d6) ?_|refine zI rfl (by first|exact la|exact lx|exact fi) ?_|refine zA rfl ?_|refine aA ?_|refine aJ rfl ?_|refine zX rfl (c7 hx) ?_)
     refine⟨h1,_,_,⟨rfl,by rw[show pB=(fun c=>decide (200 < c.path.length)||decide (30 < c.meta_.ch.length)) from rfl,e2];simp[h5,h6],rfl⟩,aM.le ?_ (aI.le_refl _)⟩
     repeat (refine AF.le_cons rfl ?_)
     exact AF.le_nil rfl
  ·have d1:decide ((i:Int) < (l.length:Int))=false:=by simp;omega
   obtain rfl:i=l.length:=by omega
   rw[gX] at hinv
   rw[hinv]
   repeat' (first|refine zB rfl (by first|exact d1|exact d3) ?_|refine zI rfl la ?_|refine zA rfl ?_|refine aA ?_|refine aJ rfl ?_)
   exact⟨rfl,_,rfl,rfl,rfl⟩
end Go.Proofs.YthnhbmlefiafaaaGreatDoor
namespace Go.Ab
open Go.RowKit
inductive gB (k:Nat) (M:aI):AV→AV→Prop where
 |sub (x y:AV) (h:∀(μ μ0:Mu) (F:cO) (w:World) (v:Value),(∀b o,jA μ F b o→jA μ0 F b o)→bR μ F w x v→bR μ0 F w y v):gB k M x y
 |agg (l l':List AV) (hl:l.length=l'.length) (h:∀(i:Nat) (x y:AV),l[i]? =some x→l'[i]? =some y→gB k M x y):gB k M (.agg l) (.agg l')
 |tup (l l':List AV) (hl:l.length=l'.length) (h:∀(i:Nat) (x y:AV),l[i]? =some x→l'[i]? =some y→gB k M x y):gB k M (.tup l) (.tup l')
 |osl (id n cap sz:Nat) (l xs:List AV) (hk:k≤id) (hM:M.get id=some (.cells l)) (hnc:n≤cap) (hn:xs.length=n) (hs:∀x,x∈xs→x.cells.length=sz) (hnl:n*sz≤l.length)
   (h:∀(p:Nat) (x y:AV),l[p]? =some x→(b9 xs)[p]? =some y→gB k M x y):gB k M (.osl id 0 n cap sz) (.sl sz xs .none)
theorem gB.rep {k:Nat} {M:aI} {x y:AV} (h:gB k M x y) {μ μ0:Mu} {F:cO} {w:World} (hg:eP μ F M w) (hown:∀b o,jX μ0 b o→jX μ b o) (hfree:∀id b o,k≤id→μ id=some (.at b)→¬jX μ0 b o):
  ∀{v:Value},bR μ F w x v→bR μ0 F w y v:=by
 induction h with
 |sub x y h=>exact fun hr=>h μ μ0 F w _ (fun b o hf=>⟨hf.1,fun ho=>hf.2 (hown b o ho)⟩) hr
 |agg l l' hl h ih=>
  intro v hr
  obtain⟨c,rfl,hs,h1,h2⟩:=hr.agg_inv
  refine .agg _ c (hs.trans hl) (fun i y u hy hu=>?_) h2
  have hi:i < l.length:=by rw[hl];exact (List.getElem?_eq_some_iff.1 hy).1
  exact ih i _ y (List.getElem?_eq_getElem hi) hy (h1 i _ u (List.getElem?_eq_getElem hi) hu)
 |tup l l' hl h ih=>
  intro v hr
  obtain⟨c,rfl,hs,h1⟩:=hr.tup_inv
  refine .tup _ c (hs.trans hl) (fun i y u hy hu=>?_)
  have hi:i < l.length:=by rw[hl];exact (List.getElem?_eq_some_iff.1 hy).1
  exact ih i _ y (List.getElem?_eq_getElem hi) hy (h1 i _ u (List.getElem?_eq_getElem hi) hu)
 |osl id n cap sz l xs hk hM hnc hn hs hnl h ih=>
  intro v hr
  obtain⟨b,c,ty,e1,e2,e3,e4,e5⟩:=hg.obj id l hM
  have hv:v=.slice (some ⟨b,0,none⟩) n cap:=by
   cases hr with
   |osl _ _ _ _ _ _ h1 h2 hv=>exact hv b e1
  subst hn
  rw[hv]
  refine s8 (b:=b) (o:=0) (vals:=fun p=>c.getD p undef) hs hnc (fun _=>rfl) (fun p y hy=>?_) trivial
  have hp:p < l.length:=by
   have h1:=(List.getElem?_eq_some_iff.1 hy).1
   rw[cC hs] at h1
   omega
  have hpc:p < c.size:=by omega
  have hx:l[p]? =some l[p]:=List.getElem?_eq_getElem hp
  have hu:c[p]? =some c[p]:=Array.getElem?_eq_getElem hpc
  have hd:c.getD p undef=c[p]:=by simp[Array.getD_eq_getD_getElem?,hu]
  simp only[hd]
  refine⟨e4 p _ hu,?_,⟨fun hF=>hg.frm b _ ⟨id,.inl e1⟩ hF,hfree id b _ hk e1⟩,ih p _ y hx hy (e5 p _ _ hx hu)⟩
  rw[cR e2,Nat.zero_add]
  exact hu
theorem gB.closed {k:Nat} {M:aI} {x:AV} (h:aP x):gB k M x x:=.sub x x fun μ μ0 F w v hf hr=>h μ μ0 F F w v hf hr
theorem gB.sl {k:Nat} {M:aI} {sz:Nat} {xs:List AV} {t:eI} (hl:∀x,x∈xs→aP x) (hc:∀x,x∈xs→∀c,c∈x.cells→aP c):gB k M (.sl sz xs t) (.sl sz xs .none):=by
 refine .sub _ _ fun μ μ0 F w v hf hr=>?_
 have h1:bR μ F w (.sl sz xs .none) v:=by
  obtain⟨A,cap,ad,vals,rfl,hsz,hcap,hA,hone,hcell,hrep,htag⟩:=hr.sl_inv
  exact .sl sz xs .none A cap ad vals hsz hcap hA hone hcell hrep trivial
 exact c8 (.inl rfl) hl hc μ μ0 F F w v hf h1
def a38 (k:Nat) (M:aI) (x y:AV):Prop:=aH k x y∨gB k M x y
def U7 (k:Nat) (M:aI) (f:AF):List (Nat×AV)→Prop
 |[]=>True
 |(i,x)::r=>a38 k M (f.get i) x∧U7 k M f r
theorem a38.rep {k:Nat} {M:aI} {x y:AV} (h:a38 k M x y) {μ:Mu} {F:cO} {w:World} (hg:eP μ F M w) {v:Value} (hr:bR μ F w x v):bR (Go.Ab.cut μ k) F w y v:=by
 rcases h with h|h
 ·exact h μ F w v hr
 ·refine h.rep hg (fun b o ho=>tO ho) ?_ hr
  intro id b o hk hid ho
  obtain⟨j,hj⟩:=ho
  have hjk:j < k:=by
   rcases hj with hj|⟨e,g,hj,_⟩
   all_goals
    unfold Go.Ab.cut at hj
    split at hj
    ·assumption
    ·cases hj
  have hl:dS μ j b:=zZ (by
   rcases hj with hj|⟨e,g,hj,_⟩
   ·exact .inl hj
   ·exact .inr ⟨e,g,hj⟩)
  have:=hg.inj j id b hl (.inl hid)
  omega
theorem DC {k:Nat} {M:aI} {f:AF}:∀{l:List (Nat×AV)} {d:List bH},U7 k M f l→∀t,a38 k M (f.get t) (AF.get ⟨l,d⟩ t)
 |[],d,_,t=>.inl aH.top
 |(i,x)::r,d,h,t=>by
  by_cases e:t=i
  ·subst e
   have:AF.get ⟨(t,x)::r,d⟩ t=x:=by simp[AF.get,aK]
   rw[this];exact h.1
  ·have:AF.get ⟨(i,x)::r,d⟩ t=AF.get ⟨r,d⟩ t:=by simp[AF.get,aK,e]
   rw[this];exact DC h.2 t
theorem aM.cutV {n0:Nat} {f:AF} {M:aI} {k:Nat} (hk:n0≤k) (hk2:k≤M.next) {t:List (Nat×AV)} {l:List (Nat×cT)} (hd:f.d=[]) (ht:U7 k M f t) (ho:gU k M l):aM n0 f M ⟨t,[]⟩ ⟨k,l⟩:=by
 intro μ0 μ F w0 w n a hn he hg hr
 refine⟨Go.Ab.cut μ k,EK he (fun id h=>Nat.lt_of_lt_of_le (hn id h) hk),F4 hg hk2 ho,hr.size,fun i=>(DC ht i).rep hg (hr.tmps i),?_,fun p hp=>by cases hp⟩
 have:=hr.defs
 rw[hd] at this
 show fY _ _ _ [] a.defers
 rw[fV this]
 trivial
theorem aS.cutV {P:Program} {g:FuncId} {args:List AV} {M:aI} {r:AV} {l:List (Nat×cT)} (h:aS P g args M fun e N=>∃x,e=.ret x∧gB M.next N x r∧M.next≤N.next∧gU M.next N l):
  aS P g args M fun e N=>e=.ret r∧N=⟨M.next,l⟩:=by
 refine h.joint ?_ ?_
 ·rintro x N ⟨y,e,hs,hn,ho⟩
  cases e
  exact⟨r,_,⟨rfl,rfl⟩,aM.cutV (Nat.le_refl _) hn rfl ⟨.inr hs,trivial⟩ ho⟩
 ·rintro x N ⟨y,e,_⟩
  cases e
def r9 {α β:Type} (R:α→β→Prop):List α→List β→Prop
 |[],[]=>True
 |a::l,b::m=>R a b∧r9 R l m
 |_,_=>False
theorem r9.len {α β:Type} {R:α→β→Prop}:∀{l:List α} {m:List β},r9 R l m→l.length=m.length
 |[],[],_=>rfl
 |a::l,b::m,h=>by simp[r9.len h.2]
 |[],_::_,h=>h.elim
 |_::_,[],h=>h.elim
theorem r9.get {α β:Type} {R:α→β→Prop}:∀{l:List α} {m:List β},r9 R l m→∀{i:Nat} {a:α} {b:β},l[i]? =some a→m[i]? =some b→R a b
 |a::l,b::m,h,0,x,y,hx,hy=>by
  cases hx
  cases hy
  exact h.1
 |a::l,b::m,h,i+1,x,y,hx,hy=>r9.get h.2 (i:=i) (by simpa using hx) (by simpa using hy)
 |[],[],_,i,x,y,hx,_=>by simp at hx
 |[],_::_,h,_,_,_,_,_=>h.elim
 |_::_,[],h,_,_,_,_,_=>h.elim
theorem r9.mono {α β:Type} {R S:α→β→Prop} (k:∀a b,R a b→S a b):∀{l:List α} {m:List β},r9 R l m→r9 S l m
 |[],[],_=>trivial
 |a::l,b::m,h=>⟨k _ _ h.1,r9.mono k h.2⟩
 |[],_::_,h=>h.elim
 |_::_,[],h=>h.elim
def UX (k:Nat) (M:aI) (x y:AV):Prop:=x.cells.length=y.cells.length∧∀(j:Nat) (a b:AV),x.cells[j]? =some a→y.cells[j]? =some b→gB k M a b
theorem CR {k:Nat} {M:aI} {rest:List AV}:∀{xs ys:List AV},r9 (UX k M) xs ys→∀(p:Nat) (a b:AV),(b9 xs++rest)[p]? =some a→(b9 ys)[p]? =some b→gB k M a b
 |[],[],_,p,a,b,_,hb=>by simp[b9] at hb
 |x::xs,y::ys,h,p,a,b,ha,hb=>by
  obtain⟨⟨h1,h2⟩,h3⟩:=h
  have e1:b9 (x::xs)++rest=x.cells++(b9 xs++rest):=by simp[b9]
  have e2:b9 (y::ys)=y.cells++b9 ys:=by simp[b9]
  rw[e1] at ha
  rw[e2] at hb
  by_cases hp:p < x.cells.length
  ·rw[List.getElem?_append_left hp] at ha
   rw[List.getElem?_append_left (by omega)] at hb
   exact h2 p a b ha hb
  ·rw[List.getElem?_append_right (by omega)] at ha hb
   rw[←h1] at hb
   exact CR h3 _ a b ha hb
 |[],_::_,h,_,_,_,_,_=>h.elim
 |_::_,[],h,_,_,_,_,_=>h.elim
theorem gB.row {k:Nat} {M:aI} {id cap sz:Nat} {l xs ys:List AV} (hk:k≤id) (hM:M.get id=some (.cells l)) (hx:l.take (xs.length*sz)=b9 xs) (hs:∀x,x∈xs→x.cells.length=sz) (hnc:xs.length≤cap) (hnl:xs.length*sz≤l.length) (h:r9 (UX k M) xs ys):
  gB k M (.osl id 0 xs.length cap sz) (.sl sz ys .none):=by
 have hl:=h.len
 have hys:∀y,y∈ys→y.cells.length=sz:=by
  intro y hy
  obtain⟨i,hi⟩:=List.mem_iff_getElem?.1 hy
  have hix:i < xs.length:=by rw[hl];exact (List.getElem?_eq_some_iff.1 hi).1
  have hx:=List.getElem?_eq_getElem hix
  rw[←(h.get hx hi).1]
  exact hs _ (List.getElem_mem hix)
 refine .osl id xs.length cap sz l ys hk hM hnc hl.symm hys hnl ?_
 intro p a b ha hb
 have e:l=b9 xs++l.drop (xs.length*sz):=by rw[←hx,List.take_append_drop]
 rw[e] at ha
 exact CR h p a b ha hb
end Go.Ab
namespace Go.Ab
open Go.RowKit
theorem VF {P:Program} {o:Oper} {ts yt e:TypeId} (ht:P.underlying ts=some (.slice e)) {x y:Operand} (ho:o.op=.binOp .eql ts x y yt) {ρ:Operand→AV} {M:aI} {sz sz':Nat} {xs:List AV} {t:eI} (hx:ρ x=.sl sz xs t) (hy:y=.const (.slice none 0 0)) {Kp:AV→aI→Prop}:
  jQ P o ρ M (fun u M'=>∃b,u=.bool b∧(xs≠[]→b=false)∧M'=M) Kp:=by
 intro μ F w a hg hr next Q' g1 g2
 have r1:=hr x (by simp[ho,Op.operands])
 rw[hx] at r1
 obtain⟨A,cap,ad,vals,hv,_,_,hA,_⟩:=r1.sl_inv
 have e2:a.eval y=.slice none 0 0:=by rw[hy];rfl
 have hrun:(execOp a.eval o).run P w=.ok (.value (.bool A.isNone)) w:=by
  have:=Go.run_eql_slice_nil (P:=P) w ts e A xs.length cap ht
  simp[execOp,ho,hv,e2,eqGuard,this]
 unfold Oper.wp
 rw[hrun]
 refine g1 μ M w _ _ (eB.refl w μ) hg (.bool _) ⟨_,rfl,fun hne=>?_,rfl⟩
 have:=(hA (List.length_pos_iff.2 hne)).1
 rw[this]
 rfl
theorem EF {P:Program} {τ:Tab} (hτ:TabOK P τ) {t tx e:TypeId} {ti ei xi:TI} (hin:qW P τ t e ti ei) (hxi:aK τ tx=some xi) {s x:Operand} {ty:TypeId} {ρ:Operand→AV} {sz:Nat} {xs:List AV} {tg:eI} (hS:ρ s=.sl sz xs tg)
  (hf:eW xi.k (ρ x)=true) (hX:iU ei.size (ρ x)=some []):jY P (.call {callee:=.builtin .append,args:=#[s,x],argTypes:=#[t,tx]}) ty ρ (.sl sz xs tg):=by
 refine b8 ?_
 intro μ F w ρc o ho hty hr
 have hs:=hr s (by simp[Op.operands,Call.operands])
 have hx:=hr x (by simp[Op.operands,Call.operands])
 rw[hS] at hs
 obtain⟨hsy,news,hsrc,hnew⟩:=vP hτ hxi hf hX hx
 obtain⟨ft,dt,zt,HT⟩:=TI.spec hτ hin.tl
 obtain⟨fe,de,ze,HE⟩:=TI.spec hτ hin.el
 have hfi:=HT.fits
 rw[hin.tk] at hfi
 have hdd:dt=.slice e:=by
  cases dt<;>simp[TK.fits] at hfi
  rw[hfi]
 subst hdd
 obtain⟨A,cap,ad,vals,hv,_,hcap,_⟩:=hs.sl_inv
 have hn0:news=[]:=List.eq_nil_of_length_eq_zero (by have:=hsrc.newsLen;simpa using this)
 subst hn0
 refine⟨ρc s,?_,by rw[hv] at hs ⊢;exact hs⟩
 have hl:=hsrc.len w
 have hcell:=hsrc.cells
 have hsize:=HE.size
 simp only[List.length_nil] at hl hcell
 rw[←hsize] at hcell
 have hrun:(Builtin.append_ #[t,tx] o.type #[ρc s,ρc x]).run P w=.ok (ρc s) w:=by
  rw[hv]
  rcases hsrc.kind with ⟨e',hk⟩|hk<;>cases A<;>simp[Builtin.append_,run_underlying HT.und,run_underlying hk,sizeOf,typeInfo,HE.info,hl,hcap,hcell,storeCells]
 simp[execOp,ho,resolve,invoke,builtin,hrun]
section
variable {P:Program} {τ:Tab} {ops:Array Oper} {cls:Nat→fZ} {Q:AX→AF→aI→Prop} {ds:List bH} {ls:List Nat} {i:Nat} {t:List (Nat×AV)} {M:aI}
def J9 (ops:Array Oper) (cls:Nat→fZ) (ds:List bH) (i:Nat) (t:List (Nat×AV)):Option (Nat×TypeId×List AV):=
 match ops[i]? with
 |some o=>
  match aV ops ⟨t,ds⟩ o,o.dst,qJ (cls i),o.op with
  |some true,some d,true,.binOp .eql ts x (.const (.slice none 0 0)) _=>(match AF.ev ⟨t,ds⟩ x with
   |.sl _ xs _=>some (d,ts,xs)
   |_=>none)
  |_,_,_,_=>none
 |none=>none
theorem nQ {d:Nat} {ts e:TypeId} {xs:List AV} (hs:J9 ops cls ds i t=some (d,ts,xs)) (ht:P.underlying ts=some (.slice e)) (h:∀b:Bool,(xs≠[]→b=false)→DW P ops cls Q ds ls ((d,.bool b)::t) M):DW P ops cls Q ds (i::ls) t M:=by
 unfold J9 at hs
 split at hs
 ·rename_i o hi
  split at hs
  ·rename_i d' ts' x yt hw hd hc ho
   split at hs
   ·rename_i sz xs' tg hx
    cases hs
    refine fA hi hw ?_
    refine SC.of_G hc (by intro c hc;rw[ho] at hc;cases hc) ?_
    refine jQ.mono (VF ht ho (sz':=0) hx rfl) ?_
    rintro u M' ⟨b,rfl,hb,rfl⟩
    have:=h b hb
    simpa [AF.put,hd] using this
   ·cases hs
  ·cases hs
 ·cases hs
theorem Q4 (hτ:TabOK P τ) {d:Nat} {o:Oper} (hi:ops[i]? =some o) (hw:aV ops ⟨t,ds⟩ o=some true) (hd:o.dst=some d) {ty tx e:TypeId} {s x:Operand} (ho:o.op=.call {callee:=.builtin .append,args:=#[s,x],argTypes:=#[ty,tx]})
  {sz:Nat} {xs:List AV} {tg:eI} (hS:AF.ev ⟨t,ds⟩ s=.sl sz xs tg) {ti ei xi:TI} (ht:aK τ ty=some ti) (hk:ti.k=.slice e) (he:aK τ e=some ei) (hp:decide (0 < ei.size)=true) (hxi:aK τ tx=some xi) (hf:eW xi.k (AF.ev ⟨t,ds⟩ x)=true) (hX:iU ei.size (AF.ev ⟨t,ds⟩ x)=some [])
  (h:DW P ops cls Q ds ls ((d,.sl sz xs tg)::t) M):DW P ops cls Q ds (i::ls) t M:=
 fR hi hw hd (by rw[ho];exact EF hτ ⟨ht,hk,he,of_decide_eq_true hp⟩ hxi hS hf hX) h
end
end Go.Ab
