/- Parts of the proof, one behind the other. No further condition. -/
import Derived.Test.YteliblifgdofgaaGreatDoorK22
import Derived.Test.YteliblifgdofgaaGreatDoorK14
import Derived.Test.YteliblifgdofgaaGreatDoorK06
import Derived.Test.YteliblifgdofgaaGreatDoorK05
import Derived.Test.YteliblifgdofgaaGreatDoorK13
import Derived.Test.YteliblifgdofgaaGreatDoorK15
import Derived.Test.YteliblifgdofgaaGreatDoorK12
import Derived.Test.YteliblifgdofgaaGreatDoorK16
import Derived.Test.YteliblifgdofgaaGreatDoorK18
import Derived.Test.YteliblifgdofgaaGreatDoorK21
import Derived.Laws.MakeOwn
set_option linter.unusedVariables false
set_option linter.unusedSimpArgs false
set_option maxRecDepth 100000
set_option maxHeartbeats 8000000
namespace Go.Proofs.YteliblifgdofgaaGreatDoor
open Go.Ab
theorem OE {α:Type} {q:α→Bool} {k:α→Int}:∀{l:List α} {p:Option Int},(∀x,x∈l→q x=true)→(∀n,p=some n→∀x,x∈l→n < k x)→(l.Pairwise fun a b=>k a < k b)→jE q k p l=true
 |[],p,_,_,_=>by cases p<;>rfl
 |x::r,p,h1,h2,h3=>by
  obtain⟨h4,h5⟩:=List.pairwise_cons.1 h3
  have ih:=OE (l:=r) (p:=some (k x)) (fun y hy=>h1 y (by simp[hy])) (fun n e y hy=>by cases e;exact h4 y hy) h5
  cases p with
  |none=>simp[jE,h1 x (by simp),ih]
  |some n=>simp[jE,h1 x (by simp),ih,h2 n rfl x (by simp)]
theorem CI (l:List Pn) (p:Pn):0≤(rR l p).2∧(rR l p).2≤1000:=by
 unfold rR
 split
 ·split
  ·decide
  ·split
   ·decide
   ·exact⟨Int.le_refl _,(by decide:(0:Int)≤1000)⟩
 ·decide
theorem MB {l:List Pn} {p:Pn} (h:(rR l p).2=0):jE fV Pn.session none (rR l p).1=true∧(rR l p).1.length≤50:=by
 unfold rR at h ⊢
 split at h
 case isFalse=>exact absurd h (by decide)
 rename_i h1
 rw[if_pos h1]
 split at h
 case isTrue=>exact absurd h (by decide)
 rename_i h2
 rw[if_neg h2]
 split at h
 case isTrue=>exact absurd h (by decide)
 rename_i h3
 rw[if_neg h3]
 rw[Bool.and_eq_true] at h1
 obtain⟨h4,h5⟩:=h1
 unfold lU at h4
 rw[Bool.and_eq_true] at h4
 have hp:=(lS l p)
 refine⟨OE (fun x hx=>?_) (fun n e=>by cases e) (EK (mB h4.1).2 fun x hx e=>h2 (List.any_eq_true.2 ⟨x,hx,by simp[fD,e]⟩)),?_⟩
 ·rcases List.mem_append.1 (hp.subset hx) with hx|hx
  ·exact sO h4.1 x hx
  ·rw[List.mem_singleton] at hx
   rw[hx]
   exact h5
 ·show (wE l p).length≤50
  rw[hp.length_eq]
  simp
  omega
theorem vP (l:List Pn) (s:Int):0≤(iH l s).2∧(iH l s).2≤1000:=by
 unfold iH
 split
 ·split
  ·exact⟨Int.le_refl _,(by decide:(0:Int)≤1000)⟩
  ·decide
 ·decide
theorem DZ {l:List Pn} {s:Int} (h:(iH l s).2=0):jE fV Pn.session none (iH l s).1=true∧(iH l s).1.length≤50:=by
 unfold iH at h ⊢
 split at h
 case isFalse=>exact absurd h (by decide)
 rename_i h1
 rw[if_pos h1]
 split at h
 case isFalse=>exact absurd h (by decide)
 rename_i h2
 rw[if_pos h2]
 unfold lU at h1
 simp only[Bool.and_eq_true,decide_eq_true_eq] at h1
 have hs:(l.filter fun x=>!fD s x).Sublist l:=List.filter_sublist
 refine⟨OE (fun x hx=>sO h1.1 x (hs.subset hx)) (fun n e=>by cases e) ((mB h1.1).2.sublist hs),?_⟩
 have:=hs.length_le
 show (l.filter fun x=>!fD s x).length≤50
 omega
theorem a6z {l:List Pn} (s:Int) (h:∀x,x∈l→fV x=true):0≤T7 l s∧T7 l s≤1000000000:=by
 unfold T7
 cases hf:l.find? (fD s) with
 |none=>decide
 |some x=>
  have:=h x (List.mem_of_find?_eq_some hf)
  unfold fV at this
  simp only[Bool.and_eq_true,decide_eq_true_eq] at this
  exact⟨this.1.2,this.2⟩
theorem yJ:∀(l:List Pn) (a:Int),gC a l≤a
 |[],a=>Int.le_refl _
 |x::r,a=>by
  have h:=yJ r (mn a x.at_)
  rw[MR] at h
  show gC (mn a x.at_) r≤a
  rw[MR]
  omega
theorem JY {w b last:Int} (l:List Pn) (h:w≤last):w≤fU w b last l∧fU w b last l≤last:=by
 have:=yJ l (mn b last)
 unfold fU
 rw[a5r]
 rw[MR] at this ⊢
 omega
theorem zU:∀{l:List Sn} {s x:Sn},x∈l9 l s→x=s∨x∈l
 |[],s,x,h=>.inl (by simpa [l9] using h)
 |y::r,s,x,h=>by
  unfold l9 at h
  split at h
  ·rcases List.mem_cons.1 h with rfl|h
   ·exact .inr (by simp)
   ·rcases zU h with h|h
    ·exact .inl h
    ·exact .inr (by simp[h])
  ·split at h
   ·rcases List.mem_cons.1 h with rfl|h
    ·exact .inl rfl
    ·exact .inr (by simp[h])
   ·rcases List.mem_cons.1 h with rfl|h
    ·exact .inl rfl
    ·exact .inr h
theorem PL:∀{l:List Sn} {s:Sn},(l.Pairwise fun a b=>a.client < b.client)→((l9 l s).Pairwise fun a b=>a.client < b.client)∧(l9 l s).length≤l.length+1∧(l.any (iJ s.client)=true→(l9 l s).length=l.length)
 |[],s,_=>by simp[l9]
 |y::r,s,h=>by
  obtain⟨h1,h2⟩:=List.pairwise_cons.1 h
  obtain⟨i1,i2,i3⟩:=PL (s:=s) h2
  unfold l9
  split
  ·next g=>
   refine⟨List.Pairwise.cons (fun x hx=>?_) i1,by simp;omega,fun ha=>?_⟩
   ·rcases zU hx with rfl|hx
    ·exact g
    ·exact h1 x hx
   ·have:iJ s.client y=false:=decide_eq_false (by omega)
    rw[List.any_cons,this,Bool.false_or] at ha
    simp[i3 ha]
  ·split
   ·next g=>
    exact⟨List.Pairwise.cons (fun x hx=>by rw[←g];exact h1 x hx) h2,by simp,fun _=>rfl⟩
   ·next g g2=>
    have g3:s.client < y.client:=by omega
    refine⟨List.Pairwise.cons (fun x hx=>?_) h,by simp,fun ha=>?_⟩
    ·rcases List.mem_cons.1 hx with rfl|hx
     ·exact g3
     ·exact Int.lt_trans g3 (h1 x hx)
    ·obtain⟨x,hx,e⟩:=List.any_eq_true.1 ha
     have e:x.client=s.client:=of_decide_eq_true e
     rcases List.mem_cons.1 hx with rfl|hx
     ·omega
     ·have:=h1 x hx
      omega
theorem CZ:∀(l:List Sn) (s:Sn),(l9 l s).find? (iJ s.client)=some s
 |[],s=>by simp[l9,iJ]
 |y::r,s=>by
  unfold l9
  split
  ·next g=>rw[List.find?_cons_of_neg (by simp[iJ];omega),CZ r s]
  ·split<;>exact List.find?_cons_of_pos (by simp[iJ])
theorem U1 (l:List Sn) (s:Sn):kM (l9 l s) s.client s.seq=((s.code,s.n),1):=by
 unfold kM pR s7
 rw[CZ]
 show (if s.seq < s.seq then _ else if s.seq=s.seq then _ else _)=_
 rw[if_neg (by omega),if_pos rfl]
 rfl
theorem AN {l:List Sn} {s:Sn} (h:(pI l s).2=0):(pI l s).1=l9 l s∧jE iF Sn.client none (pI l s).1=true∧(pI l s).1.length≤50:=by
 unfold pI at h ⊢
 split at h
 case isFalse=>exact absurd h (by decide)
 rename_i h1
 rw[if_pos h1]
 split at h
 case isTrue=>exact absurd h (by decide)
 rename_i h2
 rw[if_neg h2]
 split at h
 case isTrue=>exact absurd h (by decide)
 rename_i h3
 rw[if_neg h3]
 rw[Bool.and_eq_true] at h1
 obtain⟨h4,h5⟩:=h1
 unfold mN at h4
 simp only[Bool.and_eq_true,decide_eq_true_eq] at h4
 obtain⟨g1,g2,g3⟩:=PL (s:=s) (mB h4.1).2
 refine⟨rfl,OE (fun x hx=>?_) (fun n e=>by cases e) g1,?_⟩
 ·rcases zU hx with rfl|hx
  ·exact h5
  ·exact sO h4.1 x hx
 ·show (l9 l s).length≤50
  cases ha:l.any (iJ s.client) with
  |true=>rw[g3 ha];exact h4.2
  |false=>
   have:¬50≤l.length:=fun h=>h3 ⟨ha,h⟩
   omega
structure YU (o:Oo):Prop where
 c0:0≤o.client
 c1:o.client≤1000000
 s0:1≤o.seq
 s1:o.seq≤1000000000
 e0:0≤o.session
 e1:o.session≤1000000
 a0:0≤o.at_
 a1:o.at_≤1000000000
 k:D2 o=true
theorem v6 {o:Oo} (h:iB o=true):YU o:=by
 unfold iB yQ at h
 simp only[Bool.and_eq_true,decide_eq_true_eq,Bool.not_eq_true',decide_eq_false_iff_not] at h
 obtain⟨⟨⟨⟨⟨h1,h2⟩,h3⟩,h4⟩,h5⟩,h6⟩:=h
 exact⟨h1.1,h1.2,by omega,h3.2,h4.1,h4.2,h5.1,h5.2,h6⟩
theorem YU.lay {o:Oo} (h:YU o) (h1:o.kind=1):d8 o.ch=true:=by
 have:=h.k
 unfold D2 at this
 rw[if_pos h1] at this
 simp only[Bool.and_eq_true] at this
 exact this.1.1
theorem YU.kind {o:Oo} (h:YU o):o.kind=1∨o.kind=2∨o.kind=3∨o.kind=4:=by
 have:=h.k
 unfold D2 at this
 by_cases h1:o.kind=1
 ·exact .inl h1
 ·by_cases h2:o.kind=2
  ·exact .inr (.inl h2)
  ·by_cases h3:o.kind=3
   ·exact .inr (.inr (.inl h3))
   ·by_cases h4:o.kind=4
    ·exact .inr (.inr (.inr h4))
    ·rw[if_neg h1,if_neg h2,if_neg h3,if_neg h4] at this
     cases this
structure SQ (s:Sg) (z:Sg×(Int×Int)):Prop where
 state:dX z.1
 seen:z.1.seen=s.seen
 last:s.last≤z.1.last
 mark:s.mark≤z.1.mark
 c0:0≤z.2.1
 c1:z.2.1≤1000
 n0:0≤z.2.2
 n1:z.2.2≤1000000000
 vals:cP z.1.pairs
theorem k_0:(0:Int)≤0:=Int.le_refl 0
theorem k_3:(0:Int)≤1000:=by decide
theorem k_9:(0:Int)≤1000000000:=by decide
theorem I7 {l:List Pr} {at_:Int} {c:List Ch} (h:bT l) (hn:l.length+c.length < 1000000):bT (oG l at_ c):=by
 have e:=mI h (by omega)
 have:=(mY (gL l) at_ c).rise
 have h2:=JR (t:=gL l) (at_:=at_) (c:=c) (by rw[e];omega)
 rw[e] at h2
 rw[←h2]
 exact this
theorem UR {l:List Pr} {at_:Int} {c:List Ch} (L:Lays l at_ c) (hv:cP l) (hc:∀x,x∈c→gP x):cP (oG l at_ c):=fun p hp=>by
 rcases ((lK L).1 p).1 hp with hp|⟨x,hx,rfl⟩
 ·exact hv p hp
 ·have hm:=(BN (L.may x hx)).2.2.1
  unfold pT at hm
  simp only[Bool.and_eq_true,decide_eq_true_eq] at hm
  have h2:=LK x.meta_ x.gone (by omega)
  have h3:=(hc x hx).1
  exact⟨h3,by show (cL x.meta_ x.gone).1.length < _;omega⟩
theorem FA {s:Sg} {o:Oo} (hs:dX s) (hb:d8 o.ch=true) (h1:s.last < 1000000000):FL s.pairs (s.last+1) o.ch=true:=by
 have a:=hs.mark0
 have b:=hs.mark
 have c:=hs.top
 unfold FL
 rw[hs.st,hb,decide_eq_true (show 1≤s.last+1 by omega),decide_eq_true (show s.last+1≤1000000000 by omega),decide_eq_true (show eX s.pairs < s.last+1 by omega)]
 rfl
theorem a5y {s:Sg} {o:Oo} (hs:dX s) (hv:cP s.pairs) (hb:d8 o.ch=true) (ho:cY o):SQ s (B5 s o):=by
 unfold B5
 split
 ·exact⟨hs,rfl,Int.le_refl _,Int.le_refl _,(by decide:(0:Int)≤2),(by decide:(2:Int)≤1000),k_0,k_9,hv⟩
 ·next h=>
  have h1:s.last < 1000000000:=by omega
  have L:=A0 (FA hs hb h1)
  obtain⟨hm,hlen⟩:=lK L
  have a:=hs.mark0
  have b:=hs.mark
  have m:=hs.many
  exact⟨⟨a,by show s.mark≤s.last+1;omega,by show s.last+1≤_;omega,by show (oG _ _ _).length≤200;rw[hlen];omega,I7 hs.rise (by omega),FJ L,by show eX _≤s.last+1;rw[RJ L];exact Int.le_refl _,hs.pins,hs.pinsN,hs.seen,hs.seenN⟩,rfl,by show s.last≤s.last+1;omega,Int.le_refl _,k_0,k_3,by show 0≤s.last+1;omega,by show s.last+1≤_;omega,UR L hv ho.2⟩
theorem a40 {s:Sg} {o:Oo} (hs:dX s) (hv:cP s.pairs) (hm:YU o):SQ s (xZ s o):=by
 have same:∀c:Int,0≤c→c≤1000→SQ s (s,(c,0)):=fun c h0 h1=>⟨hs,rfl,Int.le_refl _,Int.le_refl _,h0,h1,k_0,k_9,hv⟩
 unfold xZ
 split
 ·exact same 180 (by decide) (by decide)
 ·split
  ·exact same 181 (by decide) (by decide)
  ·split
   ·next h=>
    obtain⟨h1,h2⟩:=MB h
    exact⟨⟨hs.mark0,hs.mark,hs.last,hs.many,hs.rise,hs.st,hs.top,h1,h2,hs.seen,hs.seenN⟩,rfl,Int.le_refl _,Int.le_refl _,k_0,k_3,hm.a0,hm.a1,hv⟩
   ·exact same _ (CI _ _).1 (CI _ _).2
theorem a0j {s:Sg} {o:Oo} (hs:dX s) (hv:cP s.pairs):SQ s (xG s o):=by
 unfold xG
 split
 ·next h=>
  obtain⟨h1,h2⟩:=DZ h
  have h3:=a6z o.session (sO hs.pins)
  exact⟨⟨hs.mark0,hs.mark,hs.last,hs.many,hs.rise,hs.st,hs.top,h1,h2,hs.seen,hs.seenN⟩,rfl,Int.le_refl _,Int.le_refl _,k_0,k_3,h3.1,h3.2,hv⟩
 ·exact⟨hs,rfl,Int.le_refl _,Int.le_refl _,(vP _ _).1,(vP _ _).2,k_0,k_9,hv⟩
theorem Z2 {l:List Pr} (h:dZ l=true) (w:Int):eX (mZ l w)≤eX l:=by
 unfold eX
 rw[if_pos h,if_pos (XN h w)]
 unfold mO
 obtain⟨a,b,_⟩:=mL l 0
 rcases (mL (mZ l w) 0).2.2 with e|⟨y,hy,e⟩
 ·rw[e]
  exact a
 ·rw[e]
  exact b y (kR.1 hy).1
theorem V2 {s:Sg} {o:Oo} (hs:dX s) (hv:cP s.pairs):SQ s (u6 s o):=by
 unfold u6
 obtain⟨h1,h2⟩:=JY (b:=o.at_) s.pins hs.mark
 have a:=hs.mark0
 have b:=hs.last
 have m:=hs.many
 have t:=hs.top
 have n:=(O6 s.pairs (fU s.mark o.at_ s.last s.pins)).length_le
 have u:=Z2 hs.st (fU s.mark o.at_ s.last s.pins)
 exact⟨⟨by show 0≤fU _ _ _ _;omega,h2,b,by show (mZ _ _).length≤200;omega,IM hs.rise _,XN hs.st _,by show eX (mZ _ _)≤s.last;omega,hs.pins,hs.pinsN,hs.seen,hs.seenN⟩,rfl,Int.le_refl _,h1,k_0,k_3,by show 0≤fU _ _ _ _;omega,by show fU _ _ _ _≤_;omega,XA hv _⟩
noncomputable def wU (s:Sg) (o:Oo):Sg×(Int×Int):=if o.kind=1 then B5 s o else if o.kind=2 then xZ s o else if o.kind=3 then xG s o else u6 s o
theorem XV {s:Sg} {o:Oo} (hs:dX s) (hv:cP s.pairs) (hm:YU o) (ho:cY o):SQ s (wU s o):=by
 unfold wU
 split
 ·next h=>exact a5y hs hv (hm.lay h) ho
 ·split
  ·exact a40 hs hv hm
  ·split
   ·exact a0j hs hv
   ·exact V2 hs hv
noncomputable def eA (s:Sg) (o:Oo):(Sg×(Int×Int))×Int:=T6 s o (wU s o)
theorem IC {a b:Bool} (h1:a=true) (h2:b=true):(a&&b)=true:=by rw[h1,h2];rfl
theorem a7o {s:Sg} {o:Oo} (h:(cJ s&&iB o)=false):eA s o=((AR,(0,0)),1):=by
 unfold eA T6
 rw[h]
 rfl
structure aAi (s:Sg) (x:(Sg×(Int×Int))×Int):Prop where
 e:x.2=0
 state:dX x.1.1
 last:s.last≤x.1.1.last
 mark:s.mark≤x.1.1.mark
 vals:cP x.1.1.pairs
theorem y1 {s:Sg} {o:Oo} (hs:cJ s=true) (hv:cP s.pairs) (hm:iB o=true) (ho:cY o):aAi s (eA s o):=by
 have hst:=cE.1 hs
 have same:∀r:Int×Int,aAi s ((s,r),0):=fun r=>⟨rfl,hst,Int.le_refl _,Int.le_refl _,hv⟩
 unfold eA T6
 rw[if_pos (IC hs hm)]
 split
 ·exact same _
 ·split
  ·exact same _
  ·have D:=XV hst hv (v6 hm) ho
   split
   ·next h=>
    obtain⟨_,h1,h2⟩:=AN h
    have S:=D.state
    exact⟨rfl,⟨S.mark0,S.mark,S.last,S.many,S.rise,S.st,S.top,S.pins,S.pinsN,h1,h2⟩,D.last,D.mark,D.vals⟩
   ·exact same _
theorem SB {s:Sg} {o:Oo} (hs:cJ s=true) (hv:cP s.pairs) (hm:iB o=true) (ho:cY o):eA (eA s o).1.1 o=eA s o:=by
 have A:=y1 hs hv hm ho
 have hs2:=cE.2 A.state
 have key:eA s o=((s,(eA s o).1.2),0)→eA (eA s o).1.1 o=eA s o:=fun h=>by rw[h];exact h
 by_cases h1:(kM s.seen o.client o.seq).2=1
 ·refine key ?_
  unfold eA T6
  rw[if_pos (IC hs hm),if_pos h1]
 ·by_cases h2:(kM s.seen o.client o.seq).2=2
  ·refine key ?_
   unfold eA T6
   rw[if_pos (IC hs hm),if_neg h1,if_pos h2]
  ·by_cases h3:(pI s.seen (pM o (wU s o))).2=0
   ·have e:eA s o=(({(wU s o).1 with seen:=(pI s.seen (pM o (wU s o))).1},(wU s o).2),0):=by
     unfold eA T6
     rw[if_pos (IC hs hm),if_neg h1,if_neg h2,if_pos h3]
    rw[e] at hs2 ⊢
    have hl:=U1 s.seen (pM o (wU s o))
    rw[←(AN h3).1] at hl
    unfold eA T6
    have hl:kM (pI s.seen (pM o (wU s o))).1 o.client o.seq=(((wU s o).2.1,(wU s o).2.2),1):=hl
    dsimp only at hs2 ⊢
    rw[if_pos (IC hs2 hm),hl,if_pos rfl]
   ·refine key ?_
    unfold eA T6
    rw[if_pos (IC hs hm),if_neg h1,if_neg h2,if_neg h3]
def fK:Nat→aD→Option (List Nat×aD)
 |0,s=>some ([],s)
 |k+1,s=>match c5 s with
  |none=>none
  |some (n,r)=>(fK k r).map fun x=>(n::x.1,x.2)
theorem vV {k n:Nat} {s r:aD} (h:c5 s=some (n,r)):fK (k+1) s=(fK k r).map fun x=>(n::x.1,x.2):=by
 show (match c5 s with|none=>none|some (n,r)=>(fK k r).map fun x:List Nat×aD=>(n::x.1,x.2))=_
 rw[h]
theorem JC {k:Nat} {s:aD} (h:c5 s=none):fK (k+1) s=none:=by
 show (match c5 s with|none=>none|some (n,r)=>(fK k r).map fun x:List Nat×aD=>(n::x.1,x.2))=_
 rw[h]
def FAt (s:aD) (i:Nat) (m:List Nat) (q:aD):Prop:=∀j,fK (i+j) s=(fK j q).map fun x=>(m++x.1,x.2)
theorem a4a (s:aD):FAt s 0 [] s:=by
 intro j
 rw[Nat.zero_add]
 cases fK j s<;>rfl
theorem VF {s q r:aD} {i n:Nat} {m:List Nat} (h:FAt s i m q) (hg:c5 q=some (n,r)):FAt s (i+1) (m++[n]) r:=by
 intro j
 rw[show i+1+j=i+(j+1) by omega,h (j+1),vV hg]
 cases fK j r with
 |none=>rfl
 |some x=>simp
theorem UC {s q:aD} {i k:Nat} {m:List Nat} (h:FAt s i m q) (hg:c5 q=none) (hk:i < k):fK k s=none:=by
 have:=h (k - i - 1+1)
 rw[show i+(k - i - 1+1)=k by omega,JC hg] at this
 exact this
theorem a2g {s q:aD} {k:Nat} {m:List Nat} (h:FAt s k m q):fK k s=some (m,q):=by
 have:=h 0
 rw[Nat.add_zero] at this
 rw[this]
 simp[fK]
def vK (o:Oo):List Int:=[o.client,o.seq,o.kind,o.session,o.at_]
def gY (o:Oo):aD:=eR (vK o)++(if o.kind=1 then nL (fO o.ch) else [])
def vU (o:Oo):aD×Int:=if iB o=true then (gY o,0) else ([],1)
def uI (m:List Nat) (i:Nat):Int:=(m.getD i 0:Nat)
def PH (m:List Nat) (c:List Ch):Oo:=⟨uI m 0,uI m 1,uI m 2,uI m 3,uI m 4,c⟩
def BM (o:Oo):Option Oo:=if iB o=true then some o else none
def BX (s:aD):Option Oo:=match fK 5 s with
 |none=>none
 |some (m,q)=>if uI m 2=1 then (match mG q with|none=>none|some c=>BM (PH m c)) else if q=[] then BM (PH m []) else none
theorem KP {s:aD} (h:fK 5 s=none):BX s=none:=by
 unfold BX
 rw[h]
theorem AH {s q:aD} {m:List Nat} (h:fK 5 s=some (m,q)):BX s=if uI m 2=1 then (match mG q with|none=>none|some c=>BM (PH m c)) else if q=[] then BM (PH m []) else none:=by
 unfold BX
 rw[h]
theorem A9:∀(l:List Int) (r:aD),(∀x,x∈l→0≤x∧x≤4294967295)→fK l.length (eR l++r)=some (l.map Int.toNat,r)
 |[],r,_=>rfl
 |x::l,r,h=>by
  have hx:=h x (by simp)
  have e:eR (x::l)++r=gN x.toNat++(eR l++r):=by simp[eR]
  rw[e]
  show fK (l.length+1) _=_
  rw[vV (m8 (by omega) _),A9 l r fun y hy=>h y (by simp[hy])]
  rfl
theorem KQ {l:List Ch} (h:d8 l=true):xI l=(nL (fO l),0):=by
 have:=(J0 (pL h)).2
 exact this
theorem a1r {o:Oo} (h:YU o) (h1:o.kind≠1):o.ch=[]:=by
 have:=h.k
 unfold D2 at this
 rw[if_neg h1] at this
 have key:(o.ch.length:Int)=0→o.ch=[]:=fun h=>List.eq_nil_of_length_eq_zero (by omega)
 rcases h.kind with h2|h2|h2|h2
 ·exact absurd h2 h1
 ·rw[if_pos h2] at this
  exact key (of_decide_eq_true this)
 ·rw[if_neg (by omega),if_pos h2] at this
  simp only[Bool.and_eq_true,decide_eq_true_eq] at this
  exact key this.1
 ·rw[if_neg (by omega),if_neg (by omega),if_pos h2] at this
  simp only[Bool.and_eq_true,decide_eq_true_eq] at this
  exact key this.1
theorem ND {o:Oo} (h:YU o):∀x,x∈vK o→0≤x∧x≤4294967295:=by
 have:=h.c0
 have:=h.c1
 have:=h.s0
 have:=h.s1
 have:=h.e0
 have:=h.e1
 have:=h.a0
 have:=h.a1
 have:=h.kind
 intro x hx
 unfold vK at hx
 simp only[List.mem_cons,List.not_mem_nil,or_false] at hx
 rcases hx with rfl|rfl|rfl|rfl|rfl<;>omega
theorem LO {o:Oo} (h:iB o=true):BX (gY o)=some o:=by
 have M:=v6 h
 have hf:fK 5 (gY o)=some ((vK o).map Int.toNat,if o.kind=1 then nL (fO o.ch) else []):=A9 (vK o) _ (ND M)
 have a:=M.c0
 have b:=M.s0
 have c:=M.e0
 have d:=M.a0
 have k:=M.kind
 have e:∀ch,PH ((vK o).map Int.toNat) ch={o with ch:=ch}:=fun ch=>by
  unfold PH uI vK
  simp
  omega
 have e2:uI ((vK o).map Int.toNat) 2=o.kind:=congrArg Oo.kind (e [])
 rw[AH hf,e2]
 by_cases h1:o.kind=1
 ·rw[if_pos h1,if_pos h1,pL (M.lay h1)]
  dsimp only
  rw[e]
  exact if_pos h
 ·rw[if_neg h1,if_neg h1,if_pos rfl,e,←a1r M h1]
  exact if_pos h
end Go.Proofs.YteliblifgdofgaaGreatDoor
namespace Go.Ab
open Go.RowKit
def Y4 (τ:Tab) (t:TypeId) (x ix:AV):Option AV:=
 match x,IA τ t ix with
 |.agg l,some (n,ei)=>if ei.agg=false∧ei.size=1 then l[n]? else none
 |_,_=>none
theorem ZQ {P:Program} {τ:Tab} (hτ:TabOK P τ) {t:TypeId} {x ix:Operand} {ty:TypeId} {ρ:Operand→AV} {r:AV} (h:Y4 τ t (ρ x) (ρ ix)=some r):jF P (.index t x ix) ty ρ r:=by
 refine b7 ?_
 intro μ F w ρc o ho hty hr
 have hx:=hr x (by simp[Op.operands])
 have hi:=hr ix (by simp[Op.operands])
 unfold Y4 at h
 split at h
 case h_2=>cases h
 rename_i l n ei e ha
 split at h
 case isFalse=>cases h
 rename_i hag
 obtain⟨k,i,len,el,fe,de,ze,hix,hu,h0,h1,rfl,HE⟩:=qH hτ ha
 rw[hix] at hi
 generalize hvi:ρc ix=vi at hi
 cases hi
 rw[e] at hx
 generalize hv:ρc x=v at hx
 cases hx
 rename_i c hone hs hc
 have hlt:i.toNat < c.size:=by rw[hs];exact (List.getElem?_eq_some_iff.1 h).1
 have hA:=HE.isAgg w
 rw[hag.1] at hA
 refine⟨c[i.toNat],?_,hc _ r _ h (Array.getElem?_eq_getElem hlt)⟩
 have hg:c[i.toNat*1]? =some c[i.toNat]:=by rw[Nat.mul_one];exact Array.getElem?_eq_getElem hlt
 simp[execOp,ho,hv,hvi,Instr.index,asIntOf,run_underlying hu,h0,h1,run_sizeOf w HE.info,HE.cellsOf,hag.2,part,hA,Array.getElem?_eq_getElem hlt]
section
variable {P:Program} {τ:Tab} {ops:Array Oper} {cls:Nat→fQ} {Q:AX→AF→aG→Prop} {ds:List bJ} {l:List Nat} {i:Nat} {t:List (Nat×AV)} {M:aG}
def WM (τ:Tab) (ops:Array Oper) (ds:List bJ) (i:Nat) (t:List (Nat×AV)):Option (Nat×AV):=
 match ops[i]? with
 |some o=>
  match aT ops ⟨t,ds⟩ o,o.dst,o.op with
  |some true,some d,.index ty X I=>(match Y4 τ ty (AF.ev ⟨t,ds⟩ X) (AF.ev ⟨t,ds⟩ I) with|some r=>some (d,r)|none=>none)
  |_,_,_=>none
 |none=>none
theorem a3j (hτ:TabOK P τ) {d:Nat} {x:AV} (h0:WM τ ops ds i t=some (d,x)) (h:DW P ops cls Q ds l ((d,x)::t) M):DW P ops cls Q ds (i::l) t M:=by
 unfold WM at h0
 split at h0
 case h_2=>cases h0
 rename_i o hi
 split at h0
 case h_2=>cases h0
 rename_i d' ty X I hw hd ho
 split at h0
 case h_2=>cases h0
 rename_i r hr
 cases h0
 exact fR hi hw hd (by rw[ho];exact ZQ hτ hr) h
end
end Go.Ab
namespace Go.Proofs.YteliblifgdofgaaGreatDoor
open Go.Ab
theorem TU {l:List Ch} (h:d8 l=true):(nL (fO l)).length < 900000∧nL (fO l)≠[]:=by
 obtain⟨_,h2,h3,_⟩:=kG h
 have h4:=yN (fO l)
 have h5:=nR l
 have h6:=i8 (fO l).length
 unfold nL
 refine⟨by rw[List.length_append];omega,?_⟩
 simp[gN]
theorem a1x (o:Oo) (ho:cY o):aO Tryz.prog 27 [o.av] (FK (vU o)):=by
 refine aU (aX (fP o)) (dP _) ?_
 refine aC aF Tryz.func27 rfl (by decide) (by simp[Tryz.f27]) ?_
 have k1:=FF o ho
 unfold vU
 cases h:iB o
 ·rw[h] at k1
  rw[if_neg (by simp)]
  repeat' (first|refine zA rfl ?_|refine aA ?_|refine aL rfl ?_|refine aH rfl k1 ?_)
  exact⟨rfl,_,rfl,_,rfl,aI.of_closed (dP ([],1))⟩
 ·rw[h] at k1
  rw[if_pos rfl]
  have M:=v6 h
  have hlen:(vK o).length=5:=rfl
  have hc0:∀i,0 < i→eR ((vK o).take i)≠[]:=by
   intro i hi
   obtain⟨j,rfl⟩:∃j,i=j+1:=⟨i - 1,by omega⟩
   unfold eR vK gN
   simp
  repeat' (first|refine MH rfl wZ.v72 ?_|refine zA rfl ?_|refine aA ?_|refine aL rfl ?_|refine aH rfl k1 ?_)
  refine bC 5 (fun i f N=>RG 1 (eR ((vK o).take i)) N∧f=⟨[(1,.ref o.cells),(4,.ptr 0 0),(24,.agg [.int .i64 o.client,.int .i64 o.seq,.int .i64 o.kind,.int .i64 o.session,.int .i64 o.at_]),(25,.int .i64 (i:Int))],[]⟩) (Nat.zero_le _) ⟨.inl ⟨rfl,rfl⟩,rfl⟩ (aR.le ?_ (aG.le_cons rfl (aG.le_nil rfl))) ?_
  ·skip
   repeat (refine AF.le_cons rfl ?_)
   exact AF.le_nil rfl
  rintro i f N hi ⟨hN,rfl⟩
  by_cases h1:i < 5
  ·have d1:decide ((i:Int) < 5)=true:=decide_eq_true (by omega)
   have hx:(vK o)[i]? =some (vK o)[i]:=List.getElem?_eq_getElem h1
   have fi:=aZ (i:=i) (by omega)
   have ht:=bM hx
   have hm:=ND M _ (List.getElem_mem h1)
   have kx:∀x,x∈vK o→aO Tryz.prog 56 [.int .i64 x] (.tup [.str (gN x.toNat),.int .i64 0]):=fun x hx=>by
    have h:=ND M x hx
    have k:=m6 (m:=x.toNat) (by omega)
    rw[show ((x.toNat:Nat):Int)=x by omega] at k
    exact k
   have lx:∀x:Int,(gN x.toNat).length≤5:=fun x=>i8 x.toNat
   have l0:=lx o.client
   have l1:=lx o.seq
   have l2:=lx o.kind
   have l3:=lx o.session
   have l4:=lx o.at_
   have lc2:=lJ ((vK o).take i)
   rw[List.length_take] at lc2
   obtain rfl|rfl|rfl|rfl|rfl:i=0∨i=1∨i=2∨i=3∨i=4:=by omega
   all_goals
    repeat' (first|refine a3j aF rfl ?_|refine zB rfl d1 ?_|refine zA rfl ?_|refine aA ?_|refine aL rfl ?_|refine aH rfl (kx o.client (by simp[vK])) ?_|refine aH rfl (kx o.seq (by simp[vK])) ?_|refine aH rfl (kx o.kind (by simp[vK])) ?_|refine aH rfl (kx o.session (by simp[vK])) ?_|refine aH rfl (kx o.at_ (by simp[vK])) ?_)
    refine bS rfl rfl (zO (by decide) hN (by simp[gN]) (by omega)) ?_ (fun u M' h=>by cases h.1)
    rintro u N' ⟨e,N2,hN2,hle⟩
    cases e
    repeat' (first|refine zI rfl fi ?_|refine aA ?_|refine aL rfl ?_)
    refine⟨h1,_,_,⟨?_,rfl⟩,aR.le ?_ hle⟩
    ·rw[BJ ht]
     exact hN2
    ·skip
     repeat (refine AF.le_cons rfl ?_)
     exact AF.le_nil rfl
  ·have d1:decide ((i:Int) < 5)=false:=decide_eq_false (by omega)
   obtain rfl:i=(vK o).length:=by omega
   have hq:=hc0 (vK o).length (by omega)
   rw[List.take_length] at hN hq
   have kb:=a35 o.ch .none (.inl rfl) ho.1 ho.2
   unfold gY
   unfold pcA mU at kb
   have lc2:=lJ (vK o)
   by_cases hk:o.kind=1
   ·have d2:decide (o.kind=1)=true:=decide_eq_true hk
    have hb:=M.lay hk
    obtain⟨lr,hr⟩:=TU hb
    rw[KQ hb] at kb
    rw[if_pos hk]
    generalize eR (vK o)=u at*
    generalize nL (fO o.ch)=v at*
    dsimp only at kb
    repeat' (first|refine zB rfl (by first|exact d1|exact d2) ?_|refine zA rfl ?_|refine aA ?_|refine aL rfl ?_|refine aH rfl kb ?_)
    refine bS rfl rfl (zO (by decide) hN hr (by omega)) ?_ (fun u M' h=>by cases h.1)
    rintro w N' ⟨e,N2,hN2,hle⟩
    cases e
    repeat' (first|refine aA ?_|refine aL rfl ?_)
    refine bS rfl rfl (aQ.le hle (PU (by decide) hN2 (by simp[hq]) (by rw[List.length_append];omega))) ?_ (fun u M' h=>by cases h.1)
    rintro w N' ⟨e,hn⟩
    cases e
    repeat' (first|refine zA rfl ?_|refine aA ?_|refine aL rfl ?_)
    exact⟨rfl,_,rfl,_,rfl,aI.of_closed (dP (u++v,0))⟩
   ·have d2:decide (o.kind=1)=false:=decide_eq_false hk
    rw[if_neg hk,List.append_nil]
    generalize eR (vK o)=u at*
    repeat' (first|refine zB rfl (by first|exact d1|exact d2) ?_|refine zA rfl ?_|refine aA ?_|refine aL rfl ?_)
    refine bS rfl rfl (PU (by decide) hN hq (by omega)) ?_ (fun u M' h=>by cases h.1)
    rintro w N' ⟨e,hn⟩
    cases e
    repeat' (first|refine zA rfl ?_|refine aA ?_|refine aL rfl ?_)
    exact⟨rfl,_,rfl,_,rfl,aI.of_closed (dP (u,0))⟩
def oo0:Oo:=⟨0,0,0,0,0,[]⟩
def Q4:List AV:=[.int .i64 0,.int .i64 0,.int .i64 0,.int .i64 0,.int .i64 0,.sl 0 [] .full]
theorem R5 {k:Nat}:aI k (.agg Q4) oo0.av:=aI.aggL ⟨aI.of_closed aB,aI.of_closed aB,aI.of_closed aB,aI.of_closed aB,aI.of_closed aB,aI.nil,trivial⟩
def goA:Option Oo→AV
 |some o=>.tup [o.av,.int .i64 0]
 |none=>.tup [oo0.av,.int .i64 30]
theorem L4 (x:Option Oo):aN (goA x):=by
 cases x with
 |none=>exact aS (aV (fP _) aB)
 |some o=>exact aS (aV (fP o) aB)
theorem a6q {q:aD} {m:List Nat} {c:List Ch} (h:mG q=some c):cY (PH m c):=by
 obtain⟨h1,h2⟩:=IY (J0 h).1
 exact⟨by show c.length < _;omega,h2⟩
theorem a0g (m:List Nat):cY (PH m []):=⟨by show 0 < 1000000;decide,fun c hc=>by cases hc⟩
theorem omT:aO Tryz.prog 119 [.bool true] (.tup []):=by
 intro M
 refine aC aF Tryz.func119 rfl (by decide) (by simp[Tryz.f119]) ?_
 repeat' (first|refine zA rfl ?_|refine aA ?_|refine aL rfl ?_)
 exact⟨rfl,_,rfl,rfl,rfl⟩
theorem omF:N1 Tryz.prog 119 [.bool false] (.pan (kN 30)):=by
 refine tA (aX aK) (cI 30) ?_
 refine aC aF Tryz.func119 rfl (by decide) (by simp[Tryz.f119]) ?_
 repeat' (first|refine zA rfl ?_|refine aA ?_|refine aL rfl ?_)
 refine dR rfl rfl rfl rfl rfl ?_
 exact⟨rfl,aI.of_closed (cI 30)⟩
def goM (nx:Nat) (c:List AV) (n:Int):aG:=⟨nx,[(0,.cells c),(1,.cells [.int .i64 n])]⟩
theorem a7y (nx:Nat) (a b c d e x:AV) (n v:Int):bF Tryz.prog 118 [.ptr 0 0,.ptr 1 0] (.pan (kN v)) (goM nx [a,b,c,d,e,x] n) (fun m' M'=>m'=.ret∧M'.get 0=some (.cells Q4)∧M'.get 1=some (.cells [.int .i64 v])):=by
 refine bX aF Tryz.func118 rfl (by decide) rfl rfl rfl rfl rfl (by simp[Tryz.f118]) ?_
 refine c4 aF rfl rfl rfl rfl rfl ?_
 repeat' (first|refine zA rfl ?_|refine aA ?_|refine aL rfl ?_)
 exact⟨rfl,⟨_,rfl⟩,rfl,rfl⟩
theorem aAc (nx:Nat) (a b c d e x:AV) (n:Int):bF Tryz.prog 118 [.ptr 0 0,.ptr 1 0] .ret (goM nx [a,b,c,d,e,x] n) (fun m' M'=>m'=.ret∧M'.get 0=some (.cells [a,b,c,d,e,x])∧M'.get 1=some (.cells [.int .i64 n])):=by
 refine bX aF Tryz.func118 rfl (by decide) rfl rfl rfl rfl rfl (by simp[Tryz.f118]) ?_
 refine c4 aF rfl rfl rfl rfl rfl ?_
 repeat' (first|refine zA rfl ?_|refine aA ?_|refine aL rfl ?_)
 exact⟨rfl,⟨_,rfl⟩,rfl,rfl⟩
def goD:bJ:={f:=.func 118,cap:=[.ptr 0 0,.ptr 1 0],args:=[],keep:=[(2,.ptr 0 0),(3,.ptr 1 0)]}
abbrev goR (z:Option Oo):cH→aG→Prop:=fun e _=>∃x,e=.ret x∧aI 0 x (goA z)
theorem go_res {M:aG} {a b c d e x:AV} {n:Int} {t:List (Nat×AV)} (h2:AF.get ⟨t,[]⟩ 2=.ptr 0 0) (h3:AF.get ⟨t,[]⟩ 3=.ptr 1 0) (g0:M.get 0=some (.cells [a,b,c,d,e,x])) (g1:M.get 1=some (.cells [.int .i64 n])):
  i5 iR M ⟨t,[]⟩ Tryz.f75.results=some (.tup [.agg [a,b,c,d,e,x],.int .i64 n]):=by
 have a1:cX M iR 40 (.ptr 0 0)=some (.agg [a,b,c,d,e,x]):=by
  simp only[cX,g0]
  rfl
 have a2:cX M iR 33 (.ptr 1 0)=some (.int .i64 n):=by
  simp only[cX,g1]
  rfl
 show i5 iR M ⟨t,[]⟩ #[.cell 2 40,.cell 3 33]=_
 simp only[i5,t7,mP,h2,h3,a1,a2]
theorem go_pan {M:aG} {a b c d e x:AV} {n:Int} {t:List (Nat×AV)} {o:Option Oo} (hs:o=none) (h:(goM M.next [a,b,c,d,e,x] n).le M) (h2:AF.get ⟨t,[]⟩ 2=.ptr 0 0) (h3:AF.get ⟨t,[]⟩ 3=.ptr 1 0):eF Tryz.prog iR Tryz.f75 ⟨t,[]⟩ (goR o) [goD] (.pan (kN 30)) M:=by
 rw[hs]
 refine⟨rfl,118,rfl,bF.le h (bF.mono (a7y M.next a b c d e x n 30) ?_)⟩
 rintro m' M' ⟨rfl,g0,g1⟩
 exact⟨_,go_res h2 h3 g0 g1,_,rfl,aI.tup2 R5 (aI.of_closed aB)⟩
theorem a1n {o:Oo} {t:eE}:Ab.Sub (.agg [.int .i64 o.client,.int .i64 o.seq,.int .i64 o.kind,.int .i64 o.session,.int .i64 o.at_,.sl 5 (o.ch.map Ch.av) t]) o.av:=Sub.aggL ⟨Sub.refl,Sub.refl,Sub.refl,Sub.refl,Sub.refl,Sub.untag,trivial⟩
theorem PB {o:Oo} (h:o.ch=[]):Ab.Sub (.agg [.int .i64 o.client,.int .i64 o.seq,.int .i64 o.kind,.int .i64 o.session,.int .i64 o.at_,.sl 0 [] .full]) o.av:=by
 obtain⟨a,b,c,d,e,l⟩:=o
 cases h
 exact Sub.aggL ⟨Sub.refl,Sub.refl,Sub.refl,Sub.refl,Sub.refl,Sub.nil,trivial⟩
theorem go_ret {M:aG} {o:Oo} {a b c d e x:AV} {t:List (Nat×AV)} {z:Option Oo} (hs:z=some o) (hx:Ab.Sub (.agg [a,b,c,d,e,x]) o.av) (h:(goM M.next [a,b,c,d,e,x] 0).le M) (h2:AF.get ⟨t,[]⟩ 2=.ptr 0 0) (h3:AF.get ⟨t,[]⟩ 3=.ptr 1 0):eF Tryz.prog iR Tryz.f75 ⟨t,[]⟩ (goR z) [goD] .ret M:=by
 rw[hs]
 refine⟨rfl,118,rfl,bF.le h (bF.mono (aAc M.next _ _ _ _ _ _ 0) ?_)⟩
 rintro m' M' ⟨rfl,g0,g1⟩
 exact⟨_,go_res h2 h3 g0 g1,_,rfl,aI.tup2 (aI.pre hx (aI.of_closed (fP o))) (aI.of_closed aB)⟩
def nC (m:List Nat):List AV:=[.int .i64 (uI m 0),.int .i64 (uI m 1),.int .i64 (uI m 2),.int .i64 (uI m 3),.int .i64 (uI m 4)]
def GoM (m:List Nat):aG:=⟨3,[(0,.cells Q4),(1,.cells [.int .i64 0]),(2,.cells (nC m))]⟩
def GoF (q:aD) (i:Nat):AF:=⟨[(0,.str q),(2,.ptr 0 0),(3,.ptr 1 0),(4,.fn (.func 119) [] []),(5,.ptr 2 0),(13,.int .i64 (i:Int))],[goD]⟩
theorem nJ (m:List Nat) (n j:Nat):uI (m++[n]) j=if j < m.length then uI m j else if j=m.length then (n:Int) else 0:=by
 unfold uI
 rw[List.getD_eq_getElem?_getD,List.getD_eq_getElem?_getD]
 split
 ·next h=>rw[List.getElem?_append_left h]
 ·next h=>
  rw[List.getElem?_append_right (by omega)]
  split
  ·next h2=>rw[h2,Nat.sub_self];rfl
  ·next h2=>
   obtain⟨k,hk⟩:∃k,j - m.length=k+1:=⟨j - m.length - 1,by omega⟩
   rw[hk]
   rfl
theorem wX {m:List Nat} {j:Nat} (h:m.length≤j):uI m j=0:=by
 unfold uI
 rw[List.getD_eq_getElem?_getD,List.getElem?_eq_none h]
 rfl
theorem a30 (s:aD) (hs:s.length < 1000000):aO Tryz.prog 75 [.str s] (goA (BX s)):=by
 refine aU (aX aP) (L4 _) ?_
 refine fC aF Tryz.func75 rfl (by decide) (by simp[Tryz.f75]) ?_
 repeat' (first|refine zA rfl ?_|refine aA ?_|refine aL rfl ?_)
 refine eB ?_
 refine GG rfl rfl lZ ?_
 refine eQ rfl rfl rfl rfl [(2,.ptr 0 0),(3,.ptr 1 0)] ?_ ?_
 ·intro p hp
  simp only[List.mem_cons,List.not_mem_nil,or_false] at hp
  rcases hp with rfl|rfl<;>rfl
 refine i7 ?_
 refine W.le (g:=⟨[(0,.str s),(2,.ptr 0 0),(3,.ptr 1 0)],[goD]⟩) (N:=⟨2,[(0,.cells Q4),(1,.cells [.int .i64 0])]⟩) ?_ ?_ ?_
 ·repeat (refine AF.le_cons rfl ?_)
  exact AF.le_nil rfl
 ·exact aG.le_cons rfl (aG.le_cons rfl (aG.le_nil rfl))
 have kT:=omT
 repeat' (first|refine zA rfl ?_|refine aA ?_|refine aL rfl ?_)
 refine bC 5 (fun i f N=>∃m q,m.length=i∧FAt s i m q∧q.length≤s.length∧N=GoM m∧f=GoF q i) (Nat.zero_le _) ⟨[],s,rfl,a4a s,Nat.le_refl _,rfl,rfl⟩ (aR.le ?_ (aG.le_cons rfl (aG.le_cons rfl (aG.le_cons rfl (aG.le_nil rfl))))) ?_
 ·unfold GoF
  repeat (refine AF.le_cons rfl ?_)
  exact AF.le_nil rfl
 rintro i f N hi ⟨m,q,hml,am,lq,rfl,rfl⟩
 unfold GoF
 by_cases h1:i < 5
 ·have d1:decide ((i:Int) < 5)=true:=decide_eq_true (by omega)
  have fi:=aZ (i:=i) (by omega)
  have kg:=jS q (by omega)
  cases hg:c5 q with
  |none=>
   rw[hg] at kg
   have hO:=KP (UC am hg h1)
   unfold GoM
   repeat' (first|refine zB rfl d1 ?_|refine zA rfl ?_|refine aA ?_|refine aL rfl ?_|refine aH rfl kg ?_|refine AZ rfl rfl (omF) ?_)
   exact go_pan hO (aG.le_cons rfl (aG.le_cons rfl (aG.le_nil rfl))) rfl rfl
  |some p=>
   obtain⟨n,r⟩:=p
   rw[hg] at kg
   have am2:=VF am hg
   have lr:=(gD hg).1
   have e0:=nJ m n 0
   have e1:=nJ m n 1
   have e2:=nJ m n 2
   have e3:=nJ m n 3
   have e4:=nJ m n 4
   have o1:=wX (m:=m) (j:=1)
   have o2:=wX (m:=m) (j:=2)
   have o3:=wX (m:=m) (j:=3)
   have o4:=wX (m:=m) (j:=4)
   unfold GoM nC
   obtain rfl|rfl|rfl|rfl|rfl:i=0∨i=1∨i=2∨i=3∨i=4:=by omega
   all_goals
    rw[hml] at e0 e1 e2 e3 e4 o1 o2 o3 o4
    simp at e0 e1 e2 e3 e4 o1 o2 o3 o4
    repeat' (first|refine zB rfl d1 ?_|refine zI rfl fi ?_|refine zA rfl ?_|refine aA ?_|refine aL rfl ?_|refine aH rfl kg ?_|refine aH rfl kT ?_)
    refine⟨h1,GoF r _,GoM (m++[n]),⟨m++[n],r,by simp[hml],am2,by omega,rfl,rfl⟩,aR.le ?_ ?_⟩
    ·unfold GoF
     repeat (refine AF.le_cons rfl ?_)
     exact AF.le_nil rfl
    ·unfold GoM nC
     rw[e0,e1,e2,e3,e4]
     first|exact aG.le_cons rfl (aG.le_cons rfl (aG.le_cons rfl (aG.le_nil rfl)))|(rw[o4];exact aG.le_cons rfl (aG.le_cons rfl (aG.le_cons rfl (aG.le_nil rfl))))|(rw[o3,o4];exact aG.le_cons rfl (aG.le_cons rfl (aG.le_cons rfl (aG.le_nil rfl))))|(rw[o2,o3,o4];exact aG.le_cons rfl (aG.le_cons rfl (aG.le_cons rfl (aG.le_nil rfl))))|(rw[o1,o2,o3,o4];exact aG.le_cons rfl (aG.le_cons rfl (aG.le_cons rfl (aG.le_nil rfl))))
 ·have d1:decide ((i:Int) < 5)=false:=decide_eq_false (by omega)
  obtain rfl:i=5:=by omega
  have hO:=AH (a2g am)
  unfold GoM nC
  by_cases hk:uI m 2=1
  ·have d2:decide (uI m 2=1)=true:=decide_eq_true hk
   rw[if_pos hk] at hO
   have kb:=a34 q (by omega)
   cases hc:mG q with
   |none=>
    rw[hc] at kb hO
    unfold gcA nmA mU at kb
    repeat' (first|refine zB rfl (by first|exact d1|exact d2) ?_|refine zA rfl ?_|refine aA ?_|refine aL rfl ?_|refine aH rfl kb ?_|refine AZ rfl rfl (omF) ?_)
    exact go_pan hO (aG.le_cons rfl (aG.le_cons rfl (aG.le_nil rfl))) rfl rfl
   |some c=>
    rw[hc] at kb hO
    dsimp only at hO
    have ki:=FF (PH m c) (a6q hc)
    unfold BM at hO
    unfold gcA nmA mU at kb
    cases hm:iB (PH m c)
    ·rw[hm] at ki hO
     rw[if_neg (by simp)] at hO
     repeat' (first|refine zB rfl (by first|exact d1|exact d2) ?_|refine zA rfl ?_|refine aA ?_|refine aL rfl ?_|refine aH rfl kb ?_|refine aH rfl kT ?_|refine aH rfl ki ?_|refine AZ rfl rfl (omF) ?_)
     exact go_pan hO (aG.le_cons rfl (aG.le_cons rfl (aG.le_nil rfl))) rfl rfl
    ·rw[hm] at ki hO
     rw[if_pos rfl] at hO
     repeat' (first|refine zB rfl (by first|exact d1|exact d2) ?_|refine zA rfl ?_|refine aA ?_|refine aL rfl ?_|refine aH rfl kb ?_|refine aH rfl kT ?_|refine aH rfl ki ?_)
     exact go_ret hO a1n (aG.le_cons rfl (aG.le_cons rfl (aG.le_nil rfl))) rfl rfl
  ·have d2:decide (uI m 2=1)=false:=decide_eq_false hk
   rw[if_neg hk] at hO
   by_cases hq:q=[]
   ·subst hq
    rw[if_pos rfl] at hO
    have d3:(([]:aD)==[])=true:=rfl
    have ki:=(FF (PH m []) (a0g m)).sub (args:=[.agg [.int .i64 (uI m 0),.int .i64 (uI m 1),.int .i64 (uI m 2),.int .i64 (uI m 3),.int .i64 (uI m 4),.sl 0 [] .full]]) ⟨PB (o:=PH m []) rfl,trivial⟩
    unfold BM at hO
    cases hm:iB (PH m [])
    ·rw[hm] at ki hO
     rw[if_neg (by simp)] at hO
     repeat' (first|refine zB rfl (by first|exact d1|exact d2|exact d3) ?_|refine zA rfl ?_|refine aA ?_|refine aL rfl ?_|refine aH rfl ki ?_|refine AZ rfl rfl (omF) ?_)
     exact go_pan hO (aG.le_cons rfl (aG.le_cons rfl (aG.le_nil rfl))) rfl rfl
    ·rw[hm] at ki hO
     rw[if_pos rfl] at hO
     repeat' (first|refine zB rfl (by first|exact d1|exact d2|exact d3) ?_|refine zA rfl ?_|refine aA ?_|refine aL rfl ?_|refine aH rfl ki ?_|refine aH rfl kT ?_)
     exact go_ret hO (PB (o:=PH m []) rfl) (aG.le_cons rfl (aG.le_cons rfl (aG.le_nil rfl))) rfl rfl
   ·have d3:(q==[])=false:=by simp[hq]
    rw[if_neg hq] at hO
    repeat' (first|refine zB rfl (by first|exact d1|exact d2|exact d3) ?_|refine zA rfl ?_|refine aA ?_|refine aL rfl ?_|refine AZ rfl rfl (omF) ?_)
    exact go_pan hO (aG.le_cons rfl (aG.le_cons rfl (aG.le_nil rfl))) rfl rfl
theorem RP (l:List Pr) (hl:l.length < 1000000):aO Tryz.prog 208 [prA l] (prA l):=by
 refine aU (aX (r9 l)) (r9 l) ?_
 refine aC aF Tryz.func208 rfl (by decide) (by simp[Tryz.f208]) ?_
 have la:=bA Pr.av l
 have hcl:=r9 l
 unfold prA at*
 repeat' (first|refine zA rfl ?_|refine aA ?_|refine aL rfl ?_)
 refine iZ rfl rfl ?_
 intro b hb
 cases b
 ·repeat' (first|refine zA rfl ?_|refine aA ?_|refine aL rfl ?_|refine zR rfl ?_|refine zQ rfl ?_)
  exact⟨rfl,_,rfl,_,rfl,aI.untag hcl⟩
 ·have hc:l=[]:=by
   by_cases hc:l=[]
   ·exact hc
   ·exact absurd (hb (by simpa using hc)) (by simp)
  subst hc
  repeat' (first|refine zA rfl ?_|refine aA ?_|refine aL rfl ?_)
  exact⟨rfl,_,rfl,_,rfl,aI.nil⟩
theorem SP (l:List Pn) (hl:l.length < 1000000):aO Tryz.prog 209 [cD l .none] (cD l .none):=by
 refine aU (aX (cV l (t:=.none) (.inl rfl))) (cV l (t:=.none) (.inl rfl)) ?_
 refine aC aF Tryz.func209 rfl (by decide) (by simp[Tryz.f209]) ?_
 have la:=bA Pn.av l
 have hcl:=cV l (t:=.none) (.inl rfl)
 unfold cD at*
 repeat' (first|refine zA rfl ?_|refine aA ?_|refine aL rfl ?_)
 refine iZ rfl rfl ?_
 intro b hb
 cases b
 ·repeat' (first|refine zA rfl ?_|refine aA ?_|refine aL rfl ?_|refine zR rfl ?_|refine zQ rfl ?_)
  exact⟨rfl,_,rfl,_,rfl,aI.untag hcl⟩
 ·have hc:l=[]:=by
   by_cases hc:l=[]
   ·exact hc
   ·exact absurd (hb (by simpa using hc)) (by simp)
  subst hc
  repeat' (first|refine zA rfl ?_|refine aA ?_|refine aL rfl ?_)
  exact⟨rfl,_,rfl,_,rfl,aI.nil⟩
theorem T2 (l:List Sn) (hl:l.length < 1000000):aO Tryz.prog 210 [cU l .none] (cU l .none):=by
 refine aU (aX (cT l (t:=.none) (.inl rfl))) (cT l (t:=.none) (.inl rfl)) ?_
 refine aC aF Tryz.func210 rfl (by decide) (by simp[Tryz.f210]) ?_
 have la:=bA Sn.av l
 have hcl:=cT l (t:=.none) (.inl rfl)
 unfold cU at*
 repeat' (first|refine zA rfl ?_|refine aA ?_|refine aL rfl ?_)
 refine iZ rfl rfl ?_
 intro b hb
 cases b
 ·repeat' (first|refine zA rfl ?_|refine aA ?_|refine aL rfl ?_|refine zR rfl ?_|refine zQ rfl ?_)
  exact⟨rfl,_,rfl,_,rfl,aI.untag hcl⟩
 ·have hc:l=[]:=by
   by_cases hc:l=[]
   ·exact hc
   ·exact absurd (hb (by simpa using hc)) (by simp)
  subst hc
  repeat' (first|refine zA rfl ?_|refine aA ?_|refine aL rfl ?_)
  exact⟨rfl,_,rfl,_,rfl,aI.nil⟩
theorem a3c (s:Sg) (h1:s.pairs.length < 1000000) (h2:s.pins.length < 1000000) (h3:s.seen.length < 1000000):aO Tryz.prog 166 [s.av] s.av:=by
 refine aU (aX (dK s)) (dK s) ?_
 refine aC aF Tryz.func166 rfl (by decide) (by simp[Tryz.f166]) ?_
 have k1:=RP s.pairs h1
 have k2:=SP s.pins h2
 have k3:=T2 s.seen h3
 unfold prA at k1
 unfold cD at k2
 unfold cU at k3
 repeat' (first|refine zA rfl ?_|refine aA ?_|refine aL rfl ?_|refine aH rfl k1 ?_|refine aH rfl k2 ?_|refine aH rfl k3 ?_|refine aW mixed [0,1,2,3,4,5,6,7,8,9,10,11,12,13,14] [.R,.R,.R,.R,.R,.R,.P,.R,.R,.P,.R,.R,.P,.P,.E] rfl rfl (by kernel_rfl) ?_)
 all_goals
  exact⟨rfl,_,rfl,_,rfl,aI.of_closed (dK s)⟩
end Go.Proofs.YteliblifgdofgaaGreatDoor
namespace Go.Ab
open Go.RowKit
theorem WK (z:Value) (n j:Nat) (v:Value) (h:(madeCells #[z] n)[j]? =some v):v=z:=by
 unfold madeCells at h
 simp at h
 obtain⟨_,_,h3⟩:=h
 rw[Nat.mod_one] at h3
 exact h3.symm
theorem a84 {P:Program} {τ:Tab} (hτ:TabOK P τ) {t e:TypeId} {ti ei:TI} (ht:aJ τ t=some ti) (hk:ti.k=.slice e) (he:aJ τ e=some ei) (h1:ei.size=1) {z0:AV} (hz:ei.zv.cells=[z0]) (hs:ei.zv.solid=true) (hby:ei.bytes≤1000)
  {x y:Operand} {ty:TypeId} {ρ:Operand→AV} {M:aG} {k1 k2:IntKind} {n:Nat} (hx:ρ x=.int k1 (n:Int)) (hy:ρ y=.int k2 (n:Int)) (hn:n≤1000):
  F9 P (.makeSlice t x y) ty ρ M (.osl M.next 0 n n 1) (M.push (.cells (List.replicate n z0))):=by
 intro μ F w ρc o hg ho hty hr
 obtain⟨f,d,z,H⟩:=TI.spec hτ he
 obtain⟨ft,dt,zt,HT⟩:=TI.spec hτ ht
 have hf:=HT.fits
 rw[hk] at hf
 have hdd:dt=.slice e:=by
  cases dt<;>simp[TK.fits] at hf
  rw[hf]
 subst hdd
 have hxr:=hr x (by simp[Op.operands])
 have hyr:=hr y (by simp[Op.operands])
 rw[hx] at hxr
 rw[hy] at hyr
 generalize hvx:ρc x=vx at hxr
 generalize hvy:ρc y=vy at hyr
 cases hxr
 cases hyr
 have hzr:=H.zrep (.inr h1) μ F w
 obtain⟨g1,g2,g3⟩:=jU hzr hs
 rw[hz] at g1 g3
 have hsz:z.cells.size=1:=g1
 obtain⟨zv,hzv⟩:∃zv,z.cells=#[zv]:=by
  have h0:=Array.getElem?_eq_getElem (xs:=z.cells) (i:=0) (by omega)
  refine⟨z.cells[0],?_⟩
  apply Array.ext
  ·simp[hsz]
  ·intro i hi1 hi2
   simp at hi2
   subst hi2
   rfl
 have hb:=fL w (.cells (madeCells z.cells ((n:Int).toNat*f.size)) e)
 have hfs:f.size=1:=by rw[H.size];exact h1
 have hmade:∀(j:Nat) (v:Value),(madeCells z.cells ((n:Int).toNat*f.size))[j]? =some v→v=zv:=fun j v h=>by
  rw[hzv] at h
  exact WK zv _ j v h
 have hlen:(madeCells z.cells ((n:Int).toNat*f.size)).size=n:=by
  unfold madeCells
  simp[hfs]
 have hnew:({w with heap:=w.heap.push (.cells (madeCells z.cells ((n:Int).toNat*f.size)) e)}:World).heap[w.heap.size]? =some (.cells (madeCells z.cells ((n:Int).toNat*f.size)) e (0,0)):=by simp
 have hz0:z.cells[0]? =some zv:=by rw[hzv];rfl
 obtain⟨e1,e2⟩:=j9 hg hb (l:=List.replicate n z0) (Nat.le_refl _) hnew (by rw[hlen];simp) (fun i v hv=>by rw[hmade i v hv];exact g2 0 zv hz0) (fun i x v hxi hv=>by
  rw[hmade i v hv]
  have:x=z0:=by
   rw[List.getElem?_replicate] at hxi
   split at hxi
   ·exact (Option.some.inj hxi).symm
   ·cases hxi
  rw[this]
  exact g3 0 z0 zv rfl hz0)
 refine⟨_,_,.slice (some ⟨w.heap.size,0,none⟩) n n,_,?_,.inl rfl,e1,e2,kS (by simp[Mu.put])⟩
 have hrun:=run_makeSlice (P:=P) w t e f z HT.und H.info H.zero k1 k2 (n:Int) (n:Int) (by omega) (by omega) (by rw[hfs];simp;omega) (by rw[H.bytes];have:=Int.mul_le_mul (a:=(ei.bytes:Int)) (b:=(n:Int)) (c:=1000) (d:=1000) (by omega) (by omega) (by omega) (by omega);omega) (by omega)
 have hal:w.alloc (.cells (madeCells z.cells ((n:Int).toNat*f.size)) e)={w with heap:=w.heap.push (.cells (madeCells z.cells ((n:Int).toNat*f.size)) e)}:=rfl
 rw[hal] at hrun
 simp only[execOp,ho,hvx,hvy,Int.toNat_natCast] at hrun ⊢
 simp[hrun,Result.andThen]
section
variable {P:Program} {τ:Tab} {ops:Array Oper} {cls:Nat→fQ} {Q:AX→AF→aG→Prop} {ds:List bJ} {l:List Nat} {i:Nat} {t:List (Nat×AV)} {M:aG}
theorem XX (hτ:TabOK P τ) {o:Oper} {d:Nat} (hi:ops[i]? =some o) (hw:aT ops ⟨t,ds⟩ o=some true) (hd:o.dst=some d) (hc:n7 (cls i)=true) {ty e:TypeId} {x y:Operand} (ho:o.op=.makeSlice ty x y) {ti ei:TI} (ht:aJ τ ty=some ti) (hk:ti.k=.slice e) (he:aJ τ e=some ei) (h1:ei.size=1) {z0:AV} (hz:ei.zv.cells=[z0]) (hs:ei.zv.solid=true) (hby:decide (ei.bytes≤1000)=true)
  {k1 k2:IntKind} {n:Nat} (hx:AF.ev ⟨t,ds⟩ x=.int k1 (n:Int)) (hy:AF.ev ⟨t,ds⟩ y=.int k2 (n:Int)) (hn:n≤1000) (h:DW P ops cls Q ds l ((d,.osl M.next 0 n n 1)::t) (M.push (.cells (List.replicate n z0)))):DW P ops cls Q ds (i::l) t M:=
 lE hi hw hd hc (by rw[ho];exact a84 hτ ht hk he h1 hz hs (of_decide_eq_true hby) hx hy hn) h
end
end Go.Ab
namespace Go.Proofs.YteliblifgdofgaaGreatDoor
open Go.Ab
def pK (l:List aD):Prop:=l.length≤60∧∀s,s∈l→s.length≤300
theorem OU {n m:Int} (h0:0≤n) (h1:n≤m):yQ n m=true:=by
 unfold yQ
 rw[decide_eq_true h0,decide_eq_true h1]
 rfl
theorem rA (n m:Int):aO Tryz.prog 200 [.int .i64 n,.int .i64 m] (.bool (yQ n m)):=by
 intro M
 refine aC aF Tryz.func200 rfl (by decide) (by simp[Tryz.f200]) ?_
 unfold yQ
 cases h:decide (0≤n)
 ·repeat' (first|refine zB rfl h ?_|refine zA rfl ?_|refine aA ?_|refine aL rfl ?_)
  exact⟨rfl,_,rfl,rfl,rfl⟩
 ·repeat' (first|refine zB rfl h ?_|refine zA rfl ?_|refine aA ?_|refine aL rfl ?_)
  exact⟨rfl,_,rfl,rfl,rfl⟩
theorem kI (n m:Int):aO Tryz.prog 116 [.int .i64 n,.int .i64 m] (.bool (yQ n m)):=by
 intro M
 refine aC aF Tryz.func116 rfl (by decide) (by simp[Tryz.f116]) ?_
 unfold yQ
 cases h:decide (0≤n)
 ·repeat' (first|refine zB rfl h ?_|refine zA rfl ?_|refine aA ?_|refine aL rfl ?_)
  exact⟨rfl,_,rfl,rfl,rfl⟩
 ·repeat' (first|refine zB rfl h ?_|refine zA rfl ?_|refine aA ?_|refine aL rfl ?_)
  exact⟨rfl,_,rfl,rfl,rfl⟩
theorem Z4 (s:aD) (h:s.length≤300):aO Tryz.prog 264 [.str s] (.bool false):=by
 intro M
 refine aC aF Tryz.func264 rfl (by decide) (by simp[Tryz.f264]) ?_
 have d:decide ((s.length:Int) > 300)=false:=decide_eq_false (by omega)
 repeat' (first|refine zB rfl d ?_|refine zA rfl ?_|refine aA ?_|refine aL rfl ?_)
 exact⟨rfl,_,rfl,rfl,rfl⟩
theorem a02 (l:List aD) (tg:eE) (hl:l.length < 1000000) (g:FuncId) (hp:∀x,x∈l→aO Tryz.prog g [.str x] (.bool false)):aO Tryz.prog 304 [.sl 1 (l.map AV.str) tg,.fn (.func g) [] []] (.int .i64 (-1)):=by
 intro M
 refine aC aF Tryz.func304 rfl (by decide) (by simp[Tryz.f304]) ?_
 have la:=bA AV.str l
 repeat' (first|refine zI rfl la ?_|refine zA rfl ?_|refine aA ?_|refine aL rfl ?_)
 refine bC l.length (fun i f N=>N=M∧f=⟨[(0,.sl 1 (l.map AV.str) tg),(1,.fn (.func g) [] []),(7,.int .i64 (l.length:Int)),(8,.int .i64 (i:Int))],[]⟩) (Nat.zero_le _) ⟨rfl,rfl⟩ (aR.le ?_ (aG.le_refl _)) ?_
 ·skip
  repeat (refine AF.le_cons rfl ?_)
  exact AF.le_nil rfl
 rintro i f N hi ⟨rfl,rfl⟩
 by_cases g1:i < l.length
 ·have d1:decide ((i:Int) < (l.length:Int))=true:=decide_eq_true (by omega)
  have hx:l[i]? =some l[i]:=List.getElem?_eq_getElem g1
  have fi:=aZ (i:=i) (by omega)
  have k:=hp _ (List.getElem_mem g1)
  generalize l[i]=x at hx k
  repeat' (first|refine zB rfl d1 ?_|refine zI rfl (by first|exact la|exact fi) ?_|refine zA rfl ?_|refine aA ?_|refine aL rfl ?_|refine aH rfl k ?_|refine zX rfl (fB hx) ?_)
  refine⟨g1,_,_,⟨rfl,rfl⟩,aR.le ?_ (aG.le_refl _)⟩
  repeat (refine AF.le_cons rfl ?_)
  exact AF.le_nil rfl
 ·have d1:decide ((i:Int) < (l.length:Int))=false:=decide_eq_false (by omega)
  repeat' (first|refine zB rfl d1 ?_|refine zA rfl ?_|refine aA ?_|refine aL rfl ?_)
  exact⟨rfl,_,rfl,rfl,rfl⟩
theorem TA (l:List aD) (tg:eE) (hl:l.length < 1000000) (g:FuncId) (hp:∀x,x∈l→aO Tryz.prog g [.str x] (.bool false)):aO Tryz.prog 265 [.sl 1 (l.map AV.str) tg,.fn (.func g) [] []] (.bool false):=by
 intro M
 refine aC aF Tryz.func265 rfl (by decide) (by simp[Tryz.f265]) ?_
 have k:=a02 l tg hl g hp
 repeat' (first|refine zA rfl ?_|refine aA ?_|refine aL rfl ?_|refine aH rfl k ?_)
 exact⟨rfl,_,rfl,rfl,rfl⟩
theorem M6 (l:List aD) (h:pK l):aO Tryz.prog 201 [.sl 1 (l.map AV.str) .none,.int .i64 (l.length:Int)] (.bool true):=by
 intro M
 refine aC aF Tryz.func201 rfl (by decide) (by simp[Tryz.f201]) ?_
 have la:=bA AV.str l
 have h1:=h.1
 have k1:=rA (l.length:Int) (l.length:Int)
 rw[OU (by omega) (by omega)] at k1
 have k2:=TA l .none (by omega) 264 (fun x hx=>Z4 x (h.2 x hx))
 have d1:decide ((l.length:Int)≤60)=true:=decide_eq_true (by omega)
 repeat' (first|refine zB rfl d1 ?_|refine zI rfl la ?_|refine zA rfl ?_|refine aA ?_|refine aL rfl ?_|refine aH rfl k1 ?_|refine aH rfl k2 ?_)
 exact⟨rfl,_,rfl,rfl,rfl⟩
def a1k (l:List aD):AV:=.agg [.int .i64 1,.int .i64 0,.int .i64 0,.int .i64 0,.int .i64 0,.int .i64 (l.length:Int),.int .i64 0,.sl 1 (l.map AV.str) .none]
theorem eJ (l:List aD):aN (.sl 1 (l.map AV.str) .none):=lF l (.inl rfl)
theorem AG (l:List aD):aN (a1k l):=bU (aY aB (aY aB (aY aB (aY aB (aY aB (bK aB aB (eJ l)))))))
theorem Z7 (l:List aD) (h:pK l):aO Tryz.prog 162 [a1k l] (.bool true):=by
 intro M
 refine aC aF Tryz.func162 rfl (by decide) (by simp[Tryz.f162]) ?_
 have k1:=rA 0 6
 have k2:=rA 0 1000000
 have k3:=M6 l h
 rw[show yQ 0 6=true from rfl] at k1
 rw[show yQ 0 1000000=true from rfl] at k2
 repeat' (first|refine zA rfl ?_|refine aA ?_|refine aL rfl ?_|refine aH rfl k1 ?_|refine aH rfl k2 ?_|refine aH rfl k3 ?_)
 exact⟨rfl,_,rfl,rfl,rfl⟩
theorem a1u (l:List aD) (hl:l.length < 1000000):aO Tryz.prog 99 [.sl 1 (l.map AV.str) .none] (.sl 1 (l.map AV.str) .none):=by
 refine aU (aX (eJ l)) (eJ l) ?_
 refine aC aF Tryz.func99 rfl (by decide) (by simp[Tryz.f99]) ?_
 have la:=bA AV.str l
 have hcl:=eJ l
 repeat' (first|refine zA rfl ?_|refine aA ?_|refine aL rfl ?_)
 refine iZ rfl rfl ?_
 intro b hb
 cases b
 ·repeat' (first|refine zA rfl ?_|refine aA ?_|refine aL rfl ?_|refine zR rfl ?_|refine zQ rfl ?_)
  exact⟨rfl,_,rfl,_,rfl,aI.untag hcl⟩
 ·have hc:l=[]:=by
   by_cases hc:l=[]
   ·exact hc
   ·exact absurd (hb (by simpa using hc)) (by simp)
  subst hc
  repeat' (first|refine zA rfl ?_|refine aA ?_|refine aL rfl ?_)
  exact⟨rfl,_,rfl,_,rfl,aI.nil⟩
theorem a0n (l:List aD) (hl:l.length < 1000000):aO Tryz.prog 104 [.int .i64 0,.int .i64 0,.int .i64 0,.int .i64 (l.length:Int),.sl 1 (l.map AV.str) .none] (a1k l):=by
 refine aU (aY aB (aY aB (bK aB aB (eJ l)))) (AG l) ?_
 refine aC aF Tryz.func104 rfl (by decide) (by simp[Tryz.f104]) ?_
 have k:=a1u l hl
 repeat' (first|refine zA rfl ?_|refine aA ?_|refine aL rfl ?_|refine aH rfl k ?_)
 exact⟨rfl,_,rfl,_,rfl,aI.of_closed (AG l)⟩
theorem KW (l:List aD) (h:pK l):aO Tryz.prog 117 [.sl 1 (l.map AV.str) .none,.int .i64 (l.length:Int)] (.bool true):=by
 intro M
 refine aC aF Tryz.func117 rfl (by decide) (by simp[Tryz.f117]) ?_
 have k1:=a0n l (by have:=h.1;omega)
 have k2:=Z7 l h
 unfold a1k at k1 k2
 repeat' (first|refine zA rfl ?_|refine aA ?_|refine aL rfl ?_|refine aH rfl k1 ?_|refine aH rfl k2 ?_)
 exact⟨rfl,_,rfl,rfl,rfl⟩
def d9 (l:List aD):List AV:=[.int .i64 0,.int .i64 1,.int .i64 0,.int .i64 0,.bool true,.int .i64 (l.length:Int),.sl 1 (l.map AV.str) .none,.sl 1 [.int .i64 (l.length:Int)] .none,.sl 0 [] .full]
def dI (l:List aD):AV:=.agg (d9 l)
theorem dC:aN (.sl 0 [] .full):=bR (.inr rfl) (by simp) (by simp)
theorem r5 (n:Int):aN (.sl 1 [.int .i64 n] .none):=gU [n] (.inl rfl)
theorem tD (l:List aD):∀x,x∈d9 l→aN x:=aY aB (aY aB (aY aB (aY aB (aY aK (aY aB (bK (eJ l) (r5 _) dC))))))
theorem dE (l:List aD):aN (dI l):=bU (tD l)
def lD:AV:=.agg [.int .i64 0,.int .i64 0,.int .i64 0,.int .i64 0,.bool false,.int .i64 0,.sl 0 [] .full,.sl 0 [] .full,.sl 0 [] .full]
theorem lC:aN lD:=bU (aY aB (aY aB (aY aB (aY aB (aY aK (aY aB (bK dC dC dC)))))))
theorem H4:aO Tryz.prog 54 [.int .i64 1] (.bool true):=by
 intro M
 refine aC aF Tryz.func54 rfl (by decide) (by simp[Tryz.f54]) ?_
 repeat' (first|refine zA rfl ?_|refine aA ?_|refine aL rfl ?_)
 exact⟨rfl,_,rfl,rfl,rfl⟩
theorem XJ:aO Tryz.prog 54 [.int .i64 0] (.bool false):=by
 intro M
 refine aC aF Tryz.func54 rfl (by decide) (by simp[Tryz.f54]) ?_
 repeat' (first|refine zA rfl ?_|refine aA ?_|refine aL rfl ?_)
 exact⟨rfl,_,rfl,rfl,rfl⟩
theorem PQ (l:List aD) (h:pK l):aO Tryz.prog 74 [dI l] (.bool true):=by
 refine aU (aX (dE l)) (aK) ?_
 refine aC aF Tryz.func74 rfl (by decide) (by simp[Tryz.f74]) ?_
 have la:=bA AV.str l
 have ks:=H4
 have k1:=kI 0 1000000
 have k2:=kI 0 0
 have k3:=KW l h
 have k4:=kI (l.length:Int) (l.length:Int)
 rw[show yQ 0 1000000=true from rfl] at k1
 rw[show yQ 0 0=true from rfl] at k2
 rw[OU (by omega) (by omega)] at k4
 unfold dI d9
 repeat' (first|refine zA rfl ?_|refine aA ?_|refine aL rfl ?_|refine aH rfl ks ?_|refine aH rfl k1 ?_|refine aH rfl k2 ?_|refine aH rfl k3 ?_)
 refine bC 1 (fun i f N=>N=⟨0,[]⟩∧f=⟨[(1,.ref (d9 l)),(73,.sl 1 [.int .i64 (l.length:Int)] .none),(74,.int .i64 1),(75,.int .i64 (i:Int))],[]⟩) (Nat.zero_le _) ⟨rfl,rfl⟩ (aR.le ?_ (aG.le_nil rfl)) ?_
 ·unfold d9
  repeat (refine AF.le_cons rfl ?_)
  exact AF.le_nil rfl
 rintro i f N hi ⟨rfl,rfl⟩
 unfold d9
 obtain rfl|rfl:i=0∨i=1:=by omega
 ·repeat' (first|refine zI rfl la ?_|refine zA rfl ?_|refine aA ?_|refine aL rfl ?_|refine aH rfl k4 ?_|refine zX rfl (⟨by decide,rfl⟩) ?_)
  refine⟨by decide,_,_,⟨rfl,rfl⟩,aR.le ?_ (aG.le_refl _)⟩
  repeat (refine AF.le_cons rfl ?_)
  exact AF.le_nil rfl
 ·repeat' (first|refine TB rfl Tryz.underlying201 ?_|refine zA rfl ?_|refine aA ?_|refine aL rfl ?_)
  refine bC 0 (fun i f N=>N=⟨1,[]⟩∧f=⟨[(1,.ref (d9 l)),(88,.sl 0 [] .full),(89,.int .i64 0),(90,.int .i64 (i:Int))],[]⟩) (Nat.zero_le _) ⟨rfl,rfl⟩ (aR.le ?_ (aG.le_nil rfl)) ?_
  ·unfold d9
   repeat (refine AF.le_cons rfl ?_)
   exact AF.le_nil rfl
  rintro i f N hi ⟨rfl,rfl⟩
  obtain rfl:i=0:=by omega
  repeat' (first|refine zA rfl ?_|refine aA ?_|refine aL rfl ?_)
  exact⟨rfl,_,rfl,_,rfl,aI.of_closed aK⟩
theorem SZ:aO Tryz.prog 74 [lD] (.bool false):=by
 intro M
 refine aC aF Tryz.func74 rfl (by decide) (by simp[Tryz.f74]) ?_
 have ks:=XJ
 have k1:=kI 0 1000000
 have k2:=kI 0 0
 rw[show yQ 0 1000000=true from rfl] at k1
 rw[show yQ 0 0=true from rfl] at k2
 unfold lD
 repeat' (first|refine zA rfl ?_|refine aA ?_|refine aL rfl ?_|refine aH rfl ks ?_|refine aH rfl k1 ?_|refine aH rfl k2 ?_)
 exact⟨rfl,_,rfl,rfl,rfl⟩
theorem XM:aO Tryz.prog 148 [.int .i64 0,.int .i64 1] (.tup [.int .i64 0,.bool true]):=by
 intro M
 refine aC aF Tryz.func148 rfl (by decide) (by simp[Tryz.f148]) ?_
 repeat' (first|refine zA rfl ?_|refine aA ?_|refine aL rfl ?_)
 exact⟨rfl,_,rfl,rfl,rfl⟩
theorem a0f:aO Tryz.prog 150 [.int .i64 1] (.int .i64 1):=by
 intro M
 refine aC aF Tryz.func150 rfl (by decide) (by simp[Tryz.f150]) ?_
 repeat' (first|refine zA rfl ?_|refine aA ?_|refine aL rfl ?_)
 exact⟨rfl,_,rfl,rfl,rfl⟩
end Go.Proofs.YteliblifgdofgaaGreatDoor
