/- Parts of the proof, one behind the other. No further condition. -/
import Derived.Test.YthnhbmlefiafaaaGreatDoorK26
set_option linter.unusedVariables false
set_option linter.unusedSimpArgs false
set_option maxRecDepth 100000
set_option maxHeartbeats 8000000
namespace Go.Proofs.YthnhbmlefiafaaaGreatDoor
open Go.Ab
theorem m7 {o:Oo} (h:EH o=false):cN o∧o.ch.length≤25:=by
 unfold EH at h
 simp only[Bool.or_eq_false_iff,decide_eq_false_iff_not] at h
 obtain⟨l1,l2⟩:=a2q h.1
 exact⟨⟨by omega,fun c hc=>by have:=l2 c hc;exact⟨by omega,by omega⟩⟩,by omega⟩
theorem yP {o:Oo} (h:fT o=true):cN o:=by
 have M:=nT h
 by_cases h1:o.kind=1
 ·obtain⟨a,b⟩:=wR (M.lay h1)
  exact⟨by omega,b⟩
 ·unfold cN
  rw[QC M h1]
  exact⟨by decide,fun c hc=>by cases hc⟩
theorem S0 (o:Oo):(iV o).1.length < 1000000:=by
 unfold iV
 split
 ·next h=>
  have M:=nT h
  have l:=gI (jR o)
  have hlen:(jR o).length=5:=rfl
  show (GE o).length < _
  unfold GE
  split
  ·next hk=>
   have:=(AN (M.lay hk)).1
   rw[List.length_append]
   omega
  ·rw[List.append_nil]
   omega
 ·exact (by decide:(0:Nat) < 1000000)
def a8v (l:List Oo):Prop:=l.length < 4611686018427387904∧∀o,o∈l→o.ch.length < 4611686018427387904
theorem xI (o:Oo):[o].length < 4611686018427387904:=by
 show 1 < _
 decide
theorem ZK:gA tA:=⟨by decide,(fun p hp=>by cases hp),by decide,by decide⟩
theorem xM {o:Oo} (h1:o.ch.length < 4611686018427387904):∀x,x∈[o]→x.ch.length < 4611686018427387904:=fun x hx=>by
 obtain rfl:=List.mem_singleton.1 hx
 exact h1
theorem a3n {s:aG} (h:¬800 < s.length):decide ((s.length:Int) > 800)=false:=decide_eq_false (by omega)
theorem a4g {s:aG} (h:800 < s.length):decide ((s.length:Int) > 800)=true:=decide_eq_true (by omega)
theorem OE (o:Oo) (s:aG) (h1:o.ch.length < 4611686018427387904):aN Tryz.prog 3 [o.av,.str s] (.bool true):=by
 refine aT (aZ (cH o) aR) (aL) ?_
 refine aC aF Tryz.func3 rfl (by decide) (by simp[Tryz.f3]) ?_
 have kb:=oS [o] .full (xI o) (xM h1)
 unfold BD at kb
 cases h:lH [o]
 ·rw[h] at kb
  obtain⟨ho,hc⟩:=m7 ((pF h).2 o (by simp))
  by_cases hl:800 < s.length
  ·have d1:=a4g hl
   repeat' (first|refine zB rfl d1 ?_|refine zA rfl ?_|refine aA ?_|refine aJ rfl ?_|refine aD rfl kb ?_|refine zR rfl ?_)
   exact⟨rfl,_,rfl,_,rfl,aH.of_closed aL⟩
  ·have d1:=a3n hl
   have kd:=p7
   have p1:=pN o ho
   have p2:=xZ o ho
   have i1:=oR o ho
   have i2:=F8 o ho
   have g1:=sR s (by omega)
   have g2:=ZB s (by omega)
   have c2:(fT o==fT o)=true:=by simp
   generalize fT o=b at*
   generalize iV o=X at*
   have c1:decide (X.2=X.2)=true:=decide_eq_true rfl
   have c3:(X.1==X.1)=true:=by simp
   unfold kF at p1 p2
   cases hg:kD s with
   |none=>
    rw[hg] at g1 g2
    have sm:=u4 LC LC (sY []) (sY [])
    rw[decide_eq_true rfl] at sm
    unfold QS at g1 g2
    generalize LC=z at*
    unfold Oo.av Oo.cells at*
    repeat' (first|refine zB rfl (by first|exact d1|exact c1|exact c2|exact c3) ?_|refine zA rfl ?_|refine aA ?_|refine aJ rfl ?_|refine aD rfl kb ?_|refine aD rfl kd ?_|refine aD rfl p1 ?_|refine aD rfl p2 ?_|refine aD rfl i1 ?_|refine aD rfl i2 ?_|refine aD rfl g1 ?_|refine aD rfl g2 ?_|refine aD rfl sm ?_|refine zR rfl ?_|refine aO mixed [0,1,2,3,4,5,6,7,8,9,10,11,12,13,14,15,16,17,18,19,20,21,22,23,24,25,26,27,28] [.P,.P,.R,.P,.R,.P,.P,.P,.P,.P,.P,.P,.P,.P,.P,.P,.P,.P,.P,.R,.R,.P,.P,.P,.P,.P,.P,.P,.P] rfl rfl (by kernel_rfl) ?_)
    exact⟨rfl,_,rfl,_,rfl,aH.of_closed aL⟩
   |some p=>
    rw[hg] at g1 g2
    have hp:=yP (A3 hg).1
    have sm:=u4 p p hp hp
    rw[decide_eq_true rfl] at sm
    unfold QS at g1 g2
    unfold Oo.av Oo.cells at*
    repeat' (first|refine zB rfl (by first|exact d1|exact c1|exact c2|exact c3) ?_|refine zA rfl ?_|refine aA ?_|refine aJ rfl ?_|refine aD rfl kb ?_|refine aD rfl kd ?_|refine aD rfl p1 ?_|refine aD rfl p2 ?_|refine aD rfl i1 ?_|refine aD rfl i2 ?_|refine aD rfl g1 ?_|refine aD rfl g2 ?_|refine aD rfl sm ?_|refine zR rfl ?_|refine aO mixed [0,1,2,3,4,5,6,7,8,9,10,11,12,13,14,15,16,17,18,19,20,21,22,23,24,25,26,27,28] [.P,.P,.R,.P,.R,.P,.P,.P,.P,.P,.P,.P,.P,.P,.P,.P,.P,.P,.P,.R,.R,.P,.P,.P,.P,.P,.P,.P,.P] rfl rfl (by kernel_rfl) ?_)
    exact⟨rfl,_,rfl,_,rfl,aH.of_closed aL⟩
 ·rw[h] at kb
  repeat' (first|refine zA rfl ?_|refine aA ?_|refine aJ rfl ?_|refine aD rfl kb ?_|refine zR rfl ?_)
  exact⟨rfl,_,rfl,_,rfl,aH.of_closed aL⟩
theorem RS (o:Oo) (s:aG) (h1:o.ch.length < 4611686018427387904):aN Tryz.prog 4 [o.av,.str s] (.bool true):=by
 refine aT (aZ (cH o) aR) (aL) ?_
 refine aC aF Tryz.func4 rfl (by decide) (by simp[Tryz.f4]) ?_
 have kb:=oS [o] .full (xI o) (xM h1)
 unfold BD at kb
 cases h:lH [o]
 ·rw[h] at kb
  obtain⟨ho,hc⟩:=m7 ((pF h).2 o (by simp))
  by_cases hl:800 < s.length
  ·have d1:=a4g hl
   repeat' (first|refine zB rfl d1 ?_|refine zA rfl ?_|refine aA ?_|refine aJ rfl ?_|refine aD rfl kb ?_|refine zR rfl ?_)
   exact⟨rfl,_,rfl,_,rfl,aH.of_closed aL⟩
  ·have d1:=a3n hl
   have kd:=p7
   have p1:=pN o ho
   have i1:=oR o ho
   have g1:=sR (iV o).1 (S0 o)
   have g2:=sR s (by omega)
   have sm:=u4 o o ho ho
   rw[decide_eq_true rfl] at sm
   have tail:(kD s=none∨∃q,kD s=some q∧cN q∧iV q=(s,0)):=by
    cases hg:kD s with
    |none=>exact .inl rfl
    |some q=>
     obtain⟨a,b⟩:=A3 hg
     exact .inr ⟨q,rfl,yP a,by unfold iV;rw[if_pos a,b]⟩
   have p0:=pN LC (sY [])
   rw[show iV LC=([],1) by decide] at p0
   unfold kF at p0
   cases hm:fT o
   ·rw[hm] at i1
    have e:iV o=([],1):=by unfold iV;rw[hm];rfl
    rw[e] at p1 g1
    rw[show kD (([]:aG),(1:Int)).1=none from a4h] at g1
    unfold kF at p1
    unfold QS at g1
    rcases tail with hg|⟨q,hg,hq,hp⟩
    ·rw[hg] at g2
     unfold QS at g2
     generalize LC=z at*
     unfold Oo.av Oo.cells at*
     repeat' (first|refine zB rfl d1 ?_|refine zA rfl ?_|refine aA ?_|refine aJ rfl ?_|refine aD rfl kb ?_|refine aD rfl kd ?_|refine aD rfl p1 ?_|refine aD rfl i1 ?_|refine aD rfl g1 ?_|refine aD rfl g2 ?_|refine aD rfl p0 ?_|refine zR rfl ?_)
     exact⟨rfl,_,rfl,_,rfl,aH.of_closed aL⟩
    ·rw[hg] at g2
     have p2:=pN q hq
     rw[hp] at p2
     unfold kF at p2
     unfold QS at g2
     have c3:(s==s)=true:=by simp
     generalize LC=z at*
     unfold Oo.av Oo.cells at*
     repeat' (first|refine zB rfl (by first|exact d1|exact c3) ?_|refine zA rfl ?_|refine aA ?_|refine aJ rfl ?_|refine aD rfl kb ?_|refine aD rfl kd ?_|refine aD rfl p1 ?_|refine aD rfl i1 ?_|refine aD rfl g1 ?_|refine aD rfl g2 ?_|refine aD rfl p2 ?_|refine zR rfl ?_)
     exact⟨rfl,_,rfl,_,rfl,aH.of_closed aL⟩
   ·rw[hm] at i1
    have e:iV o=(GE o,0):=by unfold iV;rw[hm];rfl
    rw[e] at p1 g1
    rw[show kD (GE o,(0:Int)).1=some o from B5 hm] at g1
    unfold kF at p1
    unfold QS at g1
    generalize GE o=u at*
    rcases tail with hg|⟨q,hg,hq,hp⟩
    ·rw[hg] at g2
     unfold QS at g2
     generalize LC=z at*
     unfold Oo.av Oo.cells at*
     repeat' (first|refine zB rfl d1 ?_|refine zA rfl ?_|refine aA ?_|refine aJ rfl ?_|refine aD rfl kb ?_|refine aD rfl kd ?_|refine aD rfl p1 ?_|refine aD rfl i1 ?_|refine aD rfl g1 ?_|refine aD rfl g2 ?_|refine aD rfl sm ?_|refine aD rfl p0 ?_|refine zR rfl ?_)
     exact⟨rfl,_,rfl,_,rfl,aH.of_closed aL⟩
    ·rw[hg] at g2
     have p2:=pN q hq
     rw[hp] at p2
     unfold kF at p2
     unfold QS at g2
     have c3:(s==s)=true:=by simp
     unfold Oo.av Oo.cells at*
     repeat' (first|refine zB rfl (by first|exact d1|exact c3) ?_|refine zA rfl ?_|refine aA ?_|refine aJ rfl ?_|refine aD rfl kb ?_|refine aD rfl kd ?_|refine aD rfl p1 ?_|refine aD rfl i1 ?_|refine aD rfl g1 ?_|refine aD rfl g2 ?_|refine aD rfl p2 ?_|refine aD rfl sm ?_|refine zR rfl ?_)
     exact⟨rfl,_,rfl,_,rfl,aH.of_closed aL⟩
 ·rw[h] at kb
  repeat' (first|refine zA rfl ?_|refine aA ?_|refine aJ rfl ?_|refine aD rfl kb ?_|refine zR rfl ?_)
  exact⟨rfl,_,rfl,_,rfl,aH.of_closed aL⟩
theorem TP {s:Sg} {o:Oo} (hs:gA s) (ho:cN o):gA (dR s o).1.1:=by
 cases h:(bT s&&fT o) with
 |false=>
  rw[F6 h]
  exact ZK
 |true=>
  rw[Bool.and_eq_true] at h
  have A:=yE h.1 hs.vals h.2 ho
  exact mP A.state A.vals
theorem PC (c n:Int):((decide (c=c))&&((decide (n=n))&&true))=true:=by simp
theorem F3 (s:Sg) (o:Oo) (h0:s.pairs.length < 4611686018427387904) (h1:o.ch.length < 4611686018427387904):aN Tryz.prog 5 [s.av,o.av] (.bool true):=by
 refine aT (aZ (bX s) (cH o)) (aL) ?_
 refine aC aF Tryz.func5 rfl (by decide) (by simp[Tryz.f5]) ?_
 have ks:=KR s h0
 have kb:=oS [o] .full (xI o) (xM h1)
 unfold BD at kb
 cases h:CG s
 ·rw[h] at ks
  have hs:=(I3 h).small
  cases h:lH [o]
  ·rw[h] at kb
   obtain⟨ho,hc⟩:=m7 ((pF h).2 o (by simp))
   have kd:=p7
   have ko:=J2 s hs.len
   have a1:=sF hs ho (by omega)
   have a2:=QK hs ho (by omega)
   have hn:=(TP (o:=o) hs ho).len
   generalize dR s o=X at*
   obtain⟨⟨t,c,n⟩,e⟩:=X
   have sm:=qD t t hn hn
   have sm2:=qD s s hs.len hs.len
   rw[decide_eq_true rfl] at sm sm2
   have c1:decide (e=e)=true:=decide_eq_true rfl
   have c2:=PC c n
   unfold P0 dK at a1 a2
   unfold Oo.av Oo.cells Sg.av Sg.cells at*
   repeat' (first|refine zB rfl (by first|exact c1|exact c2) ?_|refine zA rfl ?_|refine aA ?_|refine aJ rfl ?_|refine aD rfl ks ?_|refine aD rfl kb ?_|refine aD rfl kd ?_|refine aD rfl ko ?_|refine aD rfl a1 ?_|refine aD rfl a2 ?_|refine aD rfl sm ?_|refine aD rfl sm2 ?_|refine zR rfl ?_)
   exact⟨rfl,_,rfl,_,rfl,aH.of_closed aL⟩
  ·rw[h] at kb
   repeat' (first|refine zA rfl ?_|refine aA ?_|refine aJ rfl ?_|refine aD rfl ks ?_|refine aD rfl kb ?_|refine zR rfl ?_)
   exact⟨rfl,_,rfl,_,rfl,aH.of_closed aL⟩
 ·rw[h] at ks
  repeat' (first|refine zA rfl ?_|refine aA ?_|refine aJ rfl ?_|refine aD rfl ks ?_)
  exact⟨rfl,_,rfl,_,rfl,aH.of_closed aL⟩
theorem yF:∀{l:List Oo} {s:Sg} {r:List (Int×Int)},bT s=true→dD s.pairs→(∀o,o∈l→cN o)→gA (rN l s r).1.1∧(rN l s r).1.2.length≤r.length+l.length
 |[],s,r,hs,hv,_=>⟨mP (dI.1 hs) hv,Nat.le_refl _⟩
 |o::l,s,r,hs,hv,ho=>by
  by_cases h0:(dR s o).2=0
  ·rw[iN h0]
   have A:=yE hs hv (P5 h0).2 (ho o (by simp))
   have ih:=yF (l:=l) (r:=r++[(dR s o).1.2]) (dI.2 A.state) A.vals (fun x hx=>ho x (by simp[hx]))
   refine⟨ih.1,?_⟩
   have:=ih.2
   rw[List.length_append] at this
   simp only[List.length_cons,List.length_nil] at this ⊢
   omega
  ·rw[P1 h0]
   exact⟨ZK,Nat.zero_le _⟩
theorem TF (l:List Oo) (hb:a8v l):aN Tryz.prog 6 [BD l .none] (.bool true):=by
 refine aT (aY (kZ l (.inl rfl))) (aL) ?_
 refine aC aF Tryz.func6 rfl (by decide) (by simp[Tryz.f6]) ?_
 have kb:=oS l .none hb.1 hb.2
 cases h:lH l
 ·rw[h] at kb
  obtain⟨hl,hall⟩:=pF h
  have ho:∀o,o∈l→cN o∧o.ch.length < 1000:=fun o hm=>by
   have:=m7 (hall o hm)
   exact⟨this.1,by omega⟩
  have kd:=p7
  have k1:=G4 l (by omega) ho
  have k2:=XK l (by omega) ho
  obtain⟨hn,hr⟩:=yF (l:=l) (s:=tA) (r:=[]) (by decide) (fun p hp=>by cases hp) (fun o hm=>(ho o hm).1)
  generalize rN l tA []=X at*
  obtain⟨⟨t,r⟩,e⟩:=X
  have hr:r.length < 1000000:=by
   have:r.length≤0+l.length:=hr
   omega
  have sm:=qD t t hn.len hn.len
  have rp:=LK r r .none .none hr hr
  rw[decide_eq_true rfl] at sm rp
  have c1:decide (e=e)=true:=decide_eq_true rfl
  unfold BV at k1 k2
  unfold uS at k1 k2 rp
  unfold BD at*
  unfold Sg.av Sg.cells at*
  repeat' (first|refine zB rfl c1 ?_|refine zA rfl ?_|refine aA ?_|refine aJ rfl ?_|refine aD rfl kb ?_|refine aD rfl kd ?_|refine aD rfl k1 ?_|refine aD rfl k2 ?_|refine aD rfl sm ?_|refine aD rfl rp ?_)
  exact⟨rfl,_,rfl,_,rfl,aH.of_closed aL⟩
 ·rw[h] at kb
  unfold BD at*
  repeat' (first|refine zA rfl ?_|refine aA ?_|refine aJ rfl ?_|refine aD rfl kb ?_)
  exact⟨rfl,_,rfl,_,rfl,aH.of_closed aL⟩
theorem L9 (s:Sg) (o:Oo) (h0:s.pairs.length < 4611686018427387904) (h1:o.ch.length < 4611686018427387904):aN Tryz.prog 7 [s.av,o.av] (.bool true):=by
 refine aT (aZ (bX s) (cH o)) (aL) ?_
 refine aC aF Tryz.func7 rfl (by decide) (by simp[Tryz.f7]) ?_
 have ks:=KR s h0
 have kb:=oS [o] .full (xI o) (xM h1)
 unfold BD at kb
 cases h:CG s
 ·rw[h] at ks
  have hs:=(I3 h).small
  cases h:lH [o]
  ·rw[h] at kb
   obtain⟨ho,hc⟩:=m7 ((pF h).2 o (by simp))
   have kd:=p7
   have a1:=sF hs ho (by omega)
   have i1:=NL s hs
   have i2:=oR o ho
   cases hm:(bT s&&fT o)
   ·rw[F6 hm] at a1
    unfold P0 dK at a1
    generalize tA=z at*
    cases hq:bT s
    ·rw[hq] at i1
     unfold Oo.av Oo.cells Sg.av Sg.cells at*
     repeat' (first|refine zA rfl ?_|refine aA ?_|refine aJ rfl ?_|refine aD rfl ks ?_|refine aD rfl kb ?_|refine aD rfl kd ?_|refine aD rfl a1 ?_|refine aD rfl i1 ?_|refine zR rfl ?_)
     exact⟨rfl,_,rfl,_,rfl,aH.of_closed aL⟩
    ·rw[hq] at i1 hm
     rw[Bool.true_and] at hm
     rw[hm] at i2
     unfold Oo.av Oo.cells Sg.av Sg.cells at*
     repeat' (first|refine zA rfl ?_|refine aA ?_|refine aJ rfl ?_|refine aD rfl ks ?_|refine aD rfl kb ?_|refine aD rfl kd ?_|refine aD rfl a1 ?_|refine aD rfl i1 ?_|refine aD rfl i2 ?_|refine zR rfl ?_)
     exact⟨rfl,_,rfl,_,rfl,aH.of_closed aL⟩
   ·rw[Bool.and_eq_true] at hm
    have A:=yE hm.1 hs.vals hm.2 ho
    have hn:=mP A.state A.vals
    have a2:=sF (o:=o) hn ho (by omega)
    rw[SE hm.1 hs.vals hm.2 ho] at a2
    generalize dR s o=X at*
    obtain⟨⟨t,c,n⟩,e⟩:=X
    have he:e=0:=A.e
    subst he
    have i3:=NL t hn
    rw[show bT t=true from dI.2 A.state] at i3
    have sm:=qD t t hn.len hn.len
    rw[decide_eq_true rfl] at sm
    have c2:=PC c n
    have c3:decide (t.last≥s.last)=true:=decide_eq_true A.last
    have c4:decide (t.mark≥s.mark)=true:=decide_eq_true A.mark
    have c5:decide (t.mark≤t.last)=true:=decide_eq_true A.state.mark
    unfold P0 dK at a1 a2
    unfold Oo.av Oo.cells Sg.av Sg.cells at*
    repeat' (first|refine zB rfl (by first|exact c2|exact c3|exact c4|exact c5) ?_|refine zA rfl ?_|refine aA ?_|refine aJ rfl ?_|refine aD rfl ks ?_|refine aD rfl kb ?_|refine aD rfl kd ?_|refine aD rfl a1 ?_|refine aD rfl a2 ?_|refine aD rfl i3 ?_|refine aD rfl sm ?_|refine zR rfl ?_)
    exact⟨rfl,_,rfl,_,rfl,aH.of_closed aL⟩
  ·rw[h] at kb
   repeat' (first|refine zA rfl ?_|refine aA ?_|refine aJ rfl ?_|refine aD rfl ks ?_|refine aD rfl kb ?_|refine zR rfl ?_)
   exact⟨rfl,_,rfl,_,rfl,aH.of_closed aL⟩
 ·rw[h] at ks
  repeat' (first|refine zA rfl ?_|refine aA ?_|refine aJ rfl ?_|refine aD rfl ks ?_)
  exact⟨rfl,_,rfl,_,rfl,aH.of_closed aL⟩
end Go.Proofs.YthnhbmlefiafaaaGreatDoor
