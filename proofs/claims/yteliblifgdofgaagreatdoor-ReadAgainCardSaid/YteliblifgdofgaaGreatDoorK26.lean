/- Parts of the proof, one behind the other. No further condition. -/
import Derived.Test.YteliblifgdofgaaGreatDoorK25
import Derived.Test.YteliblifgdofgaaGreatDoorK23
import Derived.Test.YteliblifgdofgaaGreatDoorK19
import Derived.Test.YteliblifgdofgaaGreatDoorK21
import Derived.Test.YteliblifgdofgaaGreatDoorK24
set_option linter.unusedVariables false
set_option linter.unusedSimpArgs false
set_option maxRecDepth 100000
set_option maxHeartbeats 8000000
namespace Go.Proofs.YteliblifgdofgaaGreatDoor
open Go.Ab
def jO (s t:Sg):Prop:=s.mark≤t.mark∧s.last≤t.last∧∀w,t.mark≤w→w≤s.last→∀p,qL t.pairs p w=qL s.pairs p w
theorem jO.refl (s:Sg):jO s s:=⟨Int.le_refl _,Int.le_refl _,fun _ _ _ _=>rfl⟩
theorem jO.trans {s t u:Sg} (h1:jO s t) (h2:jO t u):jO s u:=⟨Int.le_trans h1.1 h2.1,Int.le_trans h1.2.1 h2.2.1,fun w hw hl p=>(h2.2.2 w hw (Int.le_trans hl h1.2.1) p).trans (h1.2.2 w (Int.le_trans h2.1 hw) hl p)⟩
theorem Z9 {s:Sg} {o:Oo} (hs:dX s) (hv:cP s.pairs) (hm:YU o) (ho:cY o):jO s (wU s o).1:=by
 have D:=XV hs hv hm ho
 refine⟨D.mark,D.last,?_⟩
 intro w hw hl p
 unfold wU at hw ⊢
 split
 ·next hk=>
  rw[if_pos hk] at hw
  unfold B5
  split
  ·rfl
  ·next h=>
   have L:=A0 (FA hs (hm.lay hk) (show s.last < 1000000000 by omega))
   have m:=hs.many
   exact VG L hs.rise (I7 hs.rise (by omega)) (.inl (show w < s.last+1 by omega))
 ·split
  ·unfold xZ
   split
   ·rfl
   ·split
    ·rfl
    ·split<;>rfl
  ·split
   ·unfold xG
    split<;>rfl
   ·next h1 h2 h3=>
    rw[if_neg h1,if_neg h2,if_neg h3] at hw
    exact a5p hs.rise (lX hs.st) hw p
theorem SR {s:Sg} {o:Oo} (hs:cJ s=true) (hv:cP s.pairs) (hm:iB o=true) (ho:cY o):jO s (eA s o).1.1:=by
 have K:=Z9 (cE.1 hs) hv (v6 hm) ho
 unfold eA T6
 rw[if_pos (IC hs hm)]
 split
 ·exact jO.refl s
 ·split
  ·exact jO.refl s
  ·split
   ·exact K
   ·exact jO.refl s
theorem tS:∀{l:List Oo} {s:Sg} {r:List (Int×Int)},cJ s=true→cP s.pairs→(∀o,o∈l→iB o=true∧cY o)→(kK l s r).2=0∧cJ (kK l s r).1.1=true∧cP (kK l s r).1.1.pairs∧jO s (kK l s r).1.1
 |[],s,r,hs,hv,_=>⟨rfl,hs,hv,jO.refl s⟩
 |o::l,s,r,hs,hv,h=>by
  obtain⟨hm,ho⟩:=h o (by simp)
  have A:=y1 hs hv hm ho
  rw[iG A.e]
  obtain⟨a,b,c,d⟩:=tS (l:=l) (r:=r++[(eA s o).1.2]) (cE.2 A.state) A.vals (fun x hx=>h x (by simp[hx]))
  exact⟨a,b,c,(SR hs hv hm ho).trans d⟩
theorem I5:∀(l m:List Oo) (s:Sg) (r:List (Int×Int)),(kK l s r).2=0→kK (l++m) s r=kK m (kK l s r).1.1 (kK l s r).1.2
 |[],m,s,r,_=>rfl
 |o::l,m,s,r,h=>by
  by_cases h0:(eA s o).2=0
  ·rw[iG h0] at h ⊢
   rw[List.cons_append,iG h0]
   exact I5 l m _ _ h
  ·rw[OA h0] at h
   exact absurd h h0
def eI (s:Sg) (dir:aD) (w:Int):List En×Int:=if bN dir=false then ([],20) else if w < s.mark then ([],180) else if s.last < w then ([],181) else pQ s.pairs dir w
theorem yI {s:Sg} (hs:dX s) {dir:aD} {w:Int} (hp:bN dir=true) (hw:s.mark≤w):pQ s.pairs dir w=(mT s.pairs dir w,0):=by
 have a:=hs.mark0
 unfold pQ
 rw[if_pos]
 rw[YD hs.st,if_neg (by rw[hp];decide),if_neg (by omega)]
theorem LA {s t:Sg} (hs:dX s) (ht:dX t) (K:jO s t) (dir:aD) (w:Int):
  ((eI s dir w).2=0→(eI t dir w).2≠0→(eI t dir w).2=180)∧((eI s dir w).2=0→(eI t dir w).2=0→(eI s dir w).1=(eI t dir w).1)∧((eI s dir w).2≠0→(eI s dir w).2=181∨(eI s dir w).2=(eI t dir w).2):=by
 obtain⟨k1,k2,k3⟩:=K
 unfold eI
 by_cases hp:bN dir=false
 ·rw[if_pos hp,if_pos hp]
  exact⟨fun h=>absurd h (by decide),fun h=>absurd h (by decide),fun _=>.inr rfl⟩
 ·have hp':bN dir=true:=by simpa using hp
  rw[if_neg hp,if_neg hp]
  by_cases h1:w < s.mark
  ·rw[if_pos h1,if_pos (show w < t.mark by omega)]
   exact⟨fun h=>absurd h (by decide),fun h=>absurd h (by decide),fun _=>.inr rfl⟩
  ·rw[if_neg h1]
   by_cases h2:s.last < w
   ·rw[if_pos h2]
    exact⟨fun h=>absurd h (by decide),fun h=>absurd h (by decide),fun _=>.inl rfl⟩
   ·rw[if_neg h2,yI hs hp' (by omega)]
    by_cases h3:w < t.mark
    ·rw[if_pos h3]
     exact⟨fun _ _=>rfl,fun _ h=>absurd h (by decide),fun h=>absurd rfl h⟩
    ·rw[if_neg h3,if_neg (show ¬t.last < w by omega),yI ht hp' (by omega)]
     exact⟨fun _ h=>absurd rfl h,fun _ _=>NP hs.rise (lX hs.st) ht.rise (lX ht.st) (fun p=>(k3 w (by omega) (by omega) p).symm) dir,fun h=>absurd rfl h⟩
structure HP (l:List Oo):Prop where
 len:l.length≤60
 may:∀o,o∈l→iB o=true∧cY o∧o.ch.length < 1000∧(gY o).length≤300
theorem HP.log {l:List Oo} (h:HP l):pK (l.map gY):=⟨by simpa using h.len,fun s hs=>by
 obtain⟨o,ho,rfl⟩:=List.mem_map.1 hs
 exact (h.may o ho).2.2.2⟩
noncomputable def pF (l:List Oo):Sg:=(kK l AR []).1.1
theorem HP.run {l:List Oo} (h:HP l):(kK l AR []).2=0∧cJ (pF l)=true∧cP (pF l).pairs:=by
 obtain⟨a,b,c,_⟩:=tS (l:=l) (s:=AR) (r:=[]) (by decide) (fun p hp=>by cases hp) (fun o ho=>⟨(h.may o ho).1,(h.may o ho).2.1⟩)
 exact⟨a,b,c⟩
def ctF (l:List Oo) (i g:Nat):AF:=⟨[(2,.ptr 0 0),(4,.sl 6 ((l.take i).map Oo.av) (.tok 1 g)),(20,.sl 1 ((l.map gY).map AV.str) .none),(21,.int .i64 (l.length:Int)),(22,.int .i64 (i:Int))],[]⟩
def ctM (g:Nat):aG:=⟨2,[(0,.cells uH),(1,.spare g)]⟩
theorem a2p {k id g:Nat} (hk:id < k) (l:List Oo) (x:Oo):aI k (.sl 6 (l.map Oo.av++[x.av]) (.tok id g)) (.sl 6 ((l++[x]).map Oo.av) (.tok id g)):=by
 rw[List.map_append]
 exact aI.tok (decide_eq_true hk) (by
  intro y hy c hc
  have:∃p:Oo,y=p.av:=by
   rcases List.mem_append.1 hy with hy|hy
   ·obtain⟨p,_,rfl⟩:=List.mem_map.1 hy
    exact⟨p,rfl⟩
   ·exact⟨x,by simpa using hy⟩
  obtain⟨p,rfl⟩:=this
  exact qA p c hc)
theorem KJ (l:List Oo) (h:HP l):aO Tryz.prog 33 [dI (l.map gY)] (.tup [(pF l).av,.int .i64 0]):=by
 refine aU (aX (dE _)) (aS (aV (dK _) aB)) ?_
 refine aC aF Tryz.func33 rfl (by decide) (by simp[Tryz.f33]) ?_
 have hlen:=h.len
 have ki:=PQ (l.map gY) h.log
 have lm:((((l.map gY).map AV.str).length:Nat):Int)=(l.length:Int):=by simp
 have lo:(((l.map gY).length:Nat):Int)=(l.length:Int):=by simp
 have hcl:=eJ (l.map gY)
 obtain⟨hr0,hr1,hr2⟩:=h.run
 have s1:(0:Int)≤0∧(0:Int)≤(l.length:Int)∧(l.length:Int)≤(((l.map gY).map AV.str).length:Int)∧(((l.map gY).map AV.str).take (l.length:Int).toNat).drop (0:Int).toNat=(l.map gY).map AV.str:=⟨by omega,by omega,by simp,by simp[List.take_of_length_le]⟩
 unfold dI d9 at ki ⊢
 rw[lo] at ki ⊢
 repeat' (first|refine zI rfl lm ?_|refine zA rfl ?_|refine aA ?_|refine aL rfl ?_|refine aH rfl ki ?_|refine m7 aF rfl (s1) ?_)
 refine bC l.length (fun i f N=>∃g,N=ctM g∧f=ctF l i g) (Nat.zero_le _) ⟨0,rfl,rfl⟩ ((aR.tok 4 rfl (sz':=6) (.inr rfl)).trans (aR.le ?_ (aG.le_cons rfl (aG.le_cons rfl (aG.le_nil rfl))))) ?_
 ·unfold ctF
  repeat (refine AF.le_cons rfl ?_)
  exact AF.le_nil rfl
 rintro i f N hi ⟨g,rfl,rfl⟩
 unfold ctF
 have lt:=bA Oo.av (l.take i)
 have lt2:(l.take i).length≤i:=by rw[List.length_take];omega
 by_cases g1:i < l.length
 ·have d1:decide ((i:Int) < (l.length:Int))=true:=decide_eq_true (by omega)
  have hx:l[i]? =some l[i]:=List.getElem?_eq_getElem g1
  have fi:=aZ (i:=i) (by omega)
  have ht:=bM hx
  obtain⟨hm,hsh,_,hb⟩:=h.may _ (List.getElem_mem g1)
  generalize l[i]=o at hx ht hm hsh hb
  have kg:=a30 (gY o) (by omega)
  rw[LO hm] at kg
  have hy:(l.map gY)[i]? =some (gY o):=by rw[List.getElem?_map,hx];rfl
  unfold goA at kg
  unfold ctM
  repeat' (first|refine zB rfl d1 ?_|refine zI rfl (by first|exact lm|exact fi) ?_|refine zA rfl ?_|refine aA ?_|refine aL rfl ?_|refine aH rfl kg ?_|refine zX rfl (fB hy) ?_|refine zR rfl ?_|refine zP rfl rfl ?_)
  refine⟨g1,ctF l (i+1) (g+1),ctM (g+1),⟨g+1,rfl,rfl⟩,aR.cut (k:=2) (t:=(ctF l (i+1) (g+1)).t) (l:=(ctM (g+1)).objs) (of_decide_eq_true rfl) (of_decide_eq_true rfl) rfl ⟨aI.ptr (by decide),?_,aI.of_closed hcl,aI.of_closed aB,aI.of_closed aB,trivial⟩ ⟨by decide,DV _,by decide,rfl,trivial⟩⟩
  rw[ht]
  exact a2p (by decide) _ _
 ·have d1:decide ((i:Int) < (l.length:Int))=false:=decide_eq_false (by omega)
  obtain rfl:i=l.length:=by omega
  rw[List.take_length]
  have kr:=(a2m l (by omega) (fun o ho=>⟨(h.may o ho).2.1,(h.may o ho).2.2.1⟩)).sub (args:=[.sl 6 (l.map Oo.av) (.tok 1 g)]) ⟨Sub.untag,trivial⟩
  unfold pF
  generalize kK l AR []=X at*
  obtain⟨⟨t,r⟩,e⟩:=X
  cases hr0
  unfold Q1 NO at kr
  unfold ctM
  repeat' (first|refine zB rfl d1 ?_|refine zA rfl ?_|refine aA ?_|refine aL rfl ?_|refine aH rfl kr ?_)
  exact⟨rfl,_,rfl,_,rfl,aI.of_closed (aS (aV (dK t) aB))⟩
theorem WA:aO Tryz.prog 33 [lD] (.tup [AR.av,.int .i64 1]):=by
 refine aU (aX lC) (aS (aV (dK _) aB)) ?_
 refine aC aF Tryz.func33 rfl (by decide) (by simp[Tryz.f33]) ?_
 have ki:=SZ
 unfold lD at ki ⊢
 repeat' (first|refine zA rfl ?_|refine aA ?_|refine aL rfl ?_|refine aH rfl ki ?_)
 exact⟨rfl,_,rfl,_,rfl,aI.tup2 (aI.aggL ⟨aI.of_closed aB,aI.of_closed aB,aI.nil,aI.nil,aI.nil,trivial⟩) (aI.of_closed aB)⟩
theorem a10 (l:List Oo) (h:HP l):aO Tryz.prog 14 [dI (l.map gY)] (.tup [.int .i64 (pF l).mark,.int .i64 (pF l).last,.int .i64 0]):=by
 refine aU (aX (dE _)) (aS (bK aB aB aB)) ?_
 refine aC aF Tryz.func14 rfl (by decide) (by simp[Tryz.f14]) ?_
 have kc:=KJ l h
 generalize pF l=s at*
 unfold dI d9 at kc ⊢
 repeat' (first|refine zA rfl ?_|refine aA ?_|refine aL rfl ?_|refine aH rfl kc ?_|refine aW mixed [0,1,4,2,3,5,6] [.R,.R,.R,.R,.P,.P,.P] rfl rfl (by kernel_rfl) ?_)
 all_goals
  exact⟨rfl,_,rfl,_,rfl,aI.of_closed (aS (bK aB aB aB))⟩
theorem R6:aO Tryz.prog 14 [lD] (.tup [.int .i64 0,.int .i64 0,.int .i64 1]):=by
 refine aU (aX lC) (aS (bK aB aB aB)) ?_
 refine aC aF Tryz.func14 rfl (by decide) (by simp[Tryz.f14]) ?_
 have kc:=WA
 unfold lD at kc ⊢
 repeat' (first|refine zA rfl ?_|refine aA ?_|refine aL rfl ?_|refine aH rfl kc ?_)
 exact⟨rfl,_,rfl,_,rfl,aI.of_closed (aS (bK aB aB aB))⟩
def rdR (s:Sg) (c q:Int):(Int×Int)×Bool:=if (kM s.seen c q).2=1 then ((kM s.seen c q).1,true) else ((0,0),false)
def ZW (x:(Int×Int)×Bool):AV:=.tup [gG x.1,.bool x.2]
theorem o9 (x:(Int×Int)×Bool):aN (ZW x):=aS (aV (bU (aV aB aB)) aK)
theorem sU (l:List Oo) (h:HP l) (c q:Int):aO Tryz.prog 11 [dI (l.map gY),.int .i64 c,.int .i64 q] (ZW (rdR (pF l) c q)):=by
 refine aU (bK (dE _) aB aB) (o9 _) ?_
 refine aC aF Tryz.func11 rfl (by decide) (by simp[Tryz.f11]) ?_
 have kc:=KJ l h
 have hs:=(cE.1 h.run.2.1).seenN
 generalize pF l=s at*
 have kl:=IK s.seen .none (.inl rfl) (by omega) c q
 unfold rdR
 unfold cU P8 gG at kl
 generalize kM s.seen c q=y at*
 obtain⟨⟨a,b⟩,k⟩:=y
 unfold dI d9 at kc ⊢
 by_cases hk:k=1
 ·have d1:(!decide (k=1))=false:=by simp[hk]
  rw[if_pos hk]
  repeat' (first|refine zB rfl d1 ?_|refine zA rfl ?_|refine aA ?_|refine aL rfl ?_|refine aH rfl kc ?_|refine aH rfl kl ?_)
  exact⟨rfl,_,rfl,_,rfl,aI.of_closed (o9 ((a,b),true))⟩
 ·have d1:(!decide (k=1))=true:=by simp[hk]
  rw[if_neg hk]
  repeat' (first|refine zB rfl d1 ?_|refine zA rfl ?_|refine aA ?_|refine aL rfl ?_|refine aH rfl kc ?_|refine aH rfl kl ?_)
  exact⟨rfl,_,rfl,_,rfl,aI.of_closed (o9 ((0,0),false))⟩
theorem LZ (dir:aD) (w:Int):aN (.fn (.func 31) [] [.ref [.str dir],.ref [.int .i64 w]]):=DJ w9 (aV (fX (aX aP)) (fX (aX aB)))
theorem X6 (w:Int):aN (.sl 1 [.int .i64 w] .full):=gU [w] (.inr rfl)
def wiB (s:Sg) (w:Int):Int:=if w < s.mark then 180 else if s.last < w then 181 else 0
theorem MD (s:Sg) (w:Int):aO Tryz.prog 66 [s.av,.sl 1 [.int .i64 w] .full] (.int .i64 (wiB s w)):=by
 intro M
 refine aC aF Tryz.func66 rfl (by decide) (by simp[Tryz.f66]) ?_
 unfold wiB
 repeat' (first|refine zA rfl ?_|refine aA ?_|refine aL rfl ?_)
 refine bC 1 (fun i f N=>N=M∧f=⟨[(2,.ref s.cells),(5,.int .i64 (if i=0 then 0 else if s.last < w then 181 else 0)),(8,.sl 1 [.int .i64 w] .full),(9,.int .i64 1),(10,.int .i64 (i:Int))],[]⟩∧(i=1→¬w < s.mark)) (Nat.zero_le _) ⟨rfl,rfl,by omega⟩ (aR.le ?_ (aG.le_refl _)) ?_
 ·skip
  repeat (refine AF.le_cons rfl ?_)
  exact AF.le_nil rfl
 rintro i f N hi ⟨rfl,rfl,hm⟩
 obtain rfl|rfl:i=0∨i=1:=by omega
 ·by_cases h1:w < s.mark
  ·have d1:decide (w < s.mark)=true:=decide_eq_true h1
   rw[if_pos h1]
   repeat' (first|refine zB rfl d1 ?_|refine zA rfl ?_|refine aA ?_|refine aL rfl ?_|refine zX rfl (⟨by decide,rfl⟩) ?_)
   exact⟨rfl,_,rfl,rfl,rfl⟩
  ·have d1:decide (w < s.mark)=false:=decide_eq_false h1
   rw[if_neg h1]
   by_cases h2:s.last < w
   ·have d2:decide (w > s.last)=true:=decide_eq_true h2
    rw[if_pos h2]
    repeat' (first|refine zB rfl (by first|exact d1|exact d2) ?_|refine zA rfl ?_|refine aA ?_|refine aL rfl ?_|refine zX rfl (⟨by decide,rfl⟩) ?_)
    refine⟨by decide,_,_,⟨rfl,rfl,fun _=>h1⟩,aR.le ?_ (aG.le_refl _)⟩
    rw[if_neg (show ¬(0+1=0) by decide)]
    repeat (refine AF.le_cons rfl ?_)
    exact AF.le_nil rfl
   ·have d2:decide (w > s.last)=false:=decide_eq_false h2
    rw[if_neg h2]
    repeat' (first|refine zB rfl (by first|exact d1|exact d2) ?_|refine zA rfl ?_|refine aA ?_|refine aL rfl ?_|refine zX rfl (⟨by decide,rfl⟩) ?_)
    refine⟨by decide,_,_,⟨rfl,rfl,fun _=>h1⟩,aR.le ?_ (aG.le_refl _)⟩
    rw[if_neg (show ¬(0+1=0) by decide)]
    repeat (refine AF.le_cons rfl ?_)
    exact AF.le_nil rfl
 ·rw[if_neg (hm rfl),if_neg (show ¬(1=0) by decide)]
  repeat' (first|refine zA rfl ?_|refine aA ?_|refine aL rfl ?_)
  exact⟨rfl,_,rfl,rfl,rfl⟩
theorem Y9 (t:Tr) (hs:t.all.length < 10000000) (hv:cP t.all) (dir:aD) (hp:dir.length < 1000000) (w:Int):aO Tryz.prog 31 [t.av,.ref [.str dir],.ref [.int .i64 w]] (T8 (pQ t.all dir w)):=by
 intro M
 refine aC aF Tryz.func31 rfl (by decide) (by simp[Tryz.f31]) ?_
 have k:=a0x t hs hv dir hp w
 unfold T8 s9 at*
 unfold Tr.av at*
 repeat' (first|refine zA rfl ?_|refine aA ?_|refine aL rfl ?_|refine aH rfl k ?_)
 exact⟨rfl,_,rfl,rfl,rfl⟩
theorem TO (l:List Oo) (h:HP l) (dir:aD) (hp:dir.length < 1000000) (w:Int):aO Tryz.prog 30 [dI (l.map gY),.str dir,.fn (.func 31) [] [.ref [.str dir],.ref [.int .i64 w]],.sl 1 [.int .i64 w] .full] (T8 (eI (pF l) dir w)):=by
 refine aU (aY (dE _) (bK aP (LZ dir w) (X6 w))) (kD _) ?_
 refine aC aF Tryz.func30 rfl (by decide) (by simp[Tryz.f30]) ?_
 have kc:=KJ l h
 obtain⟨_,hst,hvs⟩:=h.run
 have hS:=cE.1 hst
 have hm:=hS.many
 generalize pF l=s at*
 have kp:=gV dir (by omega)
 have kw:=MD s w
 have kt:=xX s (by omega)
 have hT:=mI hS.rise (by omega)
 have kl:=Y9 (gL s.pairs) (by rw[hT];omega) (by rw[hT];exact hvs) dir hp w
 rw[hT] at kl
 generalize gL s.pairs=T at*
 unfold eI
 unfold wiB at kw
 unfold dI d9 at kc ⊢
 cases hq:bN dir
 ·rw[hq] at kp
  rw[if_pos rfl]
  repeat' (first|refine zA rfl ?_|refine aA ?_|refine aL rfl ?_|refine aH rfl kc ?_|refine aH rfl kp ?_)
  exact⟨rfl,_,rfl,_,rfl,aI.tup2 aI.nil (aI.of_closed aB)⟩
 ·rw[hq] at kp
  rw[if_neg (by simp)]
  by_cases h1:w < s.mark
  ·rw[if_pos h1] at kw ⊢
   repeat' (first|refine zA rfl ?_|refine aA ?_|refine aL rfl ?_|refine aH rfl kc ?_|refine aH rfl kp ?_|refine aH rfl kw ?_)
   exact⟨rfl,_,rfl,_,rfl,aI.tup2 aI.nil (aI.of_closed aB)⟩
  ·rw[if_neg h1] at kw ⊢
   by_cases h2:s.last < w
   ·rw[if_pos h2] at kw ⊢
    repeat' (first|refine zA rfl ?_|refine aA ?_|refine aL rfl ?_|refine aH rfl kc ?_|refine aH rfl kp ?_|refine aH rfl kw ?_)
    exact⟨rfl,_,rfl,_,rfl,aI.tup2 aI.nil (aI.of_closed aB)⟩
   ·rw[if_neg h2] at kw ⊢
    have hc:=kD (pQ s.pairs dir w)
    unfold Tr.av at kt kl
    unfold T8 s9 at*
    repeat' (first|refine zA rfl ?_|refine aA ?_|refine aL rfl ?_|refine aH rfl kc ?_|refine aH rfl kp ?_|refine aH rfl kw ?_|refine aH rfl kt ?_|refine aH rfl kl ?_)
    exact⟨rfl,_,rfl,_,rfl,aI.of_closed hc⟩
theorem iX (l:List Oo) (h:HP l) (dir:aD) (hp:dir.length < 1000000) (w:Int):aO Tryz.prog 9 [dI (l.map gY),.str dir,.int .i64 w] (T8 (eI (pF l) dir w)):=by
 refine aU (bK (dE _) aP aB) (kD _) ?_
 refine aC aF Tryz.func9 rfl (by decide) (by simp[Tryz.f9]) ?_
 have k:=TO l h dir hp w
 have hc:=kD (eI (pF l) dir w)
 generalize eI (pF l) dir w=z at*
 unfold T8 s9 at*
 unfold dI d9 at k ⊢
 repeat' (first|refine zA rfl ?_|refine aA ?_|refine aL rfl ?_|refine aH rfl k ?_|refine zR rfl ?_)
 exact⟨rfl,_,rfl,_,rfl,aI.of_closed hc⟩
def pO (o:Oo):Bool:=iB o&&decide ((gY o).length≤300)
theorem a6x {o:Oo} (h:pO o=false):iB o=false∨(iB o=true∧300 < (gY o).length):=by
 unfold pO at h
 cases hm:iB o with
 |false=>exact .inl rfl
 |true=>
  rw[hm] at h
  simp at h
  exact .inr ⟨rfl,h⟩
theorem O5 {o:Oo} (h:pO o=true):iB o=true∧(gY o).length≤300:=by
 unfold pO at h
 simpa using h
def knA (l:List Oo):AV:=.tup [dI ((l.takeWhile pO).map gY),.bool (l.all pO)]
theorem xJ (l:List Oo):aN (knA l):=aS (aV (dE _) aK)
theorem uA {l:List Oo} (h:l.all pO=true):l.takeWhile pO=l:=by
 induction l with
 |nil=>rfl
 |cons x r ih=>
  simp only[List.all_cons,Bool.and_eq_true] at h
  rw[List.takeWhile_cons_of_pos h.1,ih h.2]
theorem a3b {l:List Oo} {i:Nat} {x:Oo} (hx:l[i]? =some x) (h:(l.take i).all pO=true) (h0:pO x=false):l.takeWhile pO=l.take i∧l.all pO=false:=by
 obtain⟨hi,rfl⟩:=List.getElem?_eq_some_iff.1 hx
 have e:l=l.take i++l[i]::l.drop (i+1):=by simp
 constructor
 ·conv=>lhs;rw[e]
  rw[List.takeWhile_append_of_pos (fun a ha=>List.all_eq_true.1 h a ha),List.takeWhile_cons_of_neg (by simp[h0]),List.append_nil]
 ·rw[e,List.all_append,List.all_cons,h0]
  simp
theorem qE {l:List Oo} (hl:l.length≤60) (hs:∀o,o∈l→cY o∧o.ch.length < 1000) (h:l.all pO=true):HP l:=⟨hl,fun o ho=>by
 obtain⟨a,b⟩:=O5 (List.all_eq_true.1 h o ho)
 exact⟨a,(hs o ho).1,(hs o ho).2,b⟩⟩
def knM (log:List aD):aG:=⟨2,[(0,.cells yC),(1,.cells (d9 log))]⟩
def knF (l:List Oo) (tg:eE) (i:Nat):AF:=⟨[(0,AU l tg),(2,.ptr 0 0),(4,.ptr 1 0),(6,.int .i64 (i:Int))],[]⟩
theorem QV (k:Nat) (log:List aD):H8 k (some (.cells (d9 log))) (.cells (d9 log)):=⟨rfl,fun i x y hx hy=>by
 rw[hx] at hy
 cases hy
 exact aI.of_closed (tD log x (List.mem_of_getElem? hx))⟩
theorem SV:∀x,x∈yC→aN x:=aY aB (aY aB (aY aB (aY aB (aY aK (aY aB (bK dC dC dC))))))
theorem a43 (k:Nat):H8 k (some (.cells yC)) (.cells yC):=⟨rfl,fun i x y hx hy=>by
 rw[hx] at hy
 cases hy
 exact aI.of_closed (SV x (List.mem_of_getElem? hx))⟩
theorem nM (l:List Oo) (tg:eE) (htg:tg=.none∨tg=.full) (hl:l.length≤60) (hs:∀o,o∈l→cY o∧o.ch.length < 1000):aO Tryz.prog 7 [AU l tg] (knA l):=by
 refine aU (aX (iL l htg)) (xJ l) ?_
 refine aC aF Tryz.func7 rfl (by decide) (by simp[Tryz.f7]) ?_
 have la:=bA Oo.av l
 have kn:=ZJ
 have hcl:=iL l htg
 unfold dI d9 at kn
 unfold AU
 repeat' (first|refine zA rfl ?_|refine aA ?_|refine aL rfl ?_|refine aH rfl kn ?_)
 refine bC l.length (fun i f N=>(l.take i).all pO=true∧N=knM ((l.take i).map gY)∧f=knF l tg i) (Nat.zero_le _) ⟨rfl,rfl,rfl⟩ (aR.le ?_ (aG.le_cons rfl (aG.le_cons rfl (aG.le_nil rfl)))) ?_
 ·unfold knF AU
  repeat (refine AF.le_cons rfl ?_)
  exact AF.le_nil rfl
 rintro i f N hi ⟨hall,rfl,rfl⟩
 unfold knF AU
 have lt2:(l.take i).length=i:=by rw[List.length_take];omega
 by_cases g1:i < l.length
 ·have d1:decide ((i:Int) < (l.length:Int))=true:=decide_eq_true (by omega)
  have hx:l[i]? =some l[i]:=List.getElem?_eq_getElem g1
  have fi:=aZ (i:=i) (by omega)
  have ht:=bM hx
  obtain⟨ho,hc⟩:=hs _ (List.getElem_mem g1)
  generalize l[i]=o at hx ht ho hc
  have hL:pK ((l.take i).map gY):=(qE (l:=l.take i) (by omega) (fun o ho=>hs o (List.mem_of_mem_take ho)) hall).log
  have hlen:((l.take i).map gY).length < 60:=by simp;omega
  have kp:=a1x o ho
  unfold FK at kp
  have close:∀b,l.takeWhile pO=l.take i→l.all pO=b→aI 0 (.tup [dI ((l.take i).map gY),.bool b]) (knA l):=fun b h1 h2=>by
   unfold knA
   rw[h1,h2]
   exact aI.of_closed (aS (aV (dE _) aK))
  cases hk:pO o
  ·obtain⟨h1,h2⟩:=a3b hx hall hk
   have hcl2:=close false h1 h2
   rcases a6x hk with hm|⟨hm,hb⟩
   ·have e:vU o=([],1):=by unfold vU;rw[if_neg (by rw[hm];decide)]
    rw[e] at kp
    have ka:=NU ((l.take i).map gY) [] hL hlen (by decide)
    unfold zY at ka
    unfold knM
    generalize (l.take i).map gY++[[]]=log2 at*
    generalize (l.take i).map gY=log at*
    unfold dI d9 at*
    repeat' (first|refine zB rfl d1 ?_|refine zI rfl la ?_|refine zA rfl ?_|refine aA ?_|refine aL rfl ?_|refine aH rfl kp ?_|refine aH rfl ka ?_|refine zX rfl (fB hx) ?_)
    exact⟨rfl,_,rfl,_,rfl,hcl2⟩
   ·have e:vU o=(gY o,0):=by unfold vU;rw[if_pos hm]
    rw[e] at kp
    have ka:=a7j ((l.take i).map gY) (gY o) hL hlen hb
    unfold OY lD at ka
    unfold knM
    generalize (l.take i).map gY=log at*
    generalize gY o=u at*
    unfold dI d9 at*
    repeat' (first|refine zB rfl d1 ?_|refine zI rfl la ?_|refine zA rfl ?_|refine aA ?_|refine aL rfl ?_|refine aH rfl kp ?_|refine aH rfl ka ?_|refine zX rfl (fB hx) ?_)
    exact⟨rfl,_,rfl,_,rfl,hcl2⟩
  ·obtain⟨hm,hb⟩:=O5 hk
   have e:vU o=(gY o,0):=by unfold vU;rw[if_pos hm]
   rw[e] at kp
   have ka:=NU ((l.take i).map gY) (gY o) hL hlen hb
   have hA:(l.take (i+1)).all pO=true:=by rw[ht,List.all_append,hall];simp[hk]
   have hM:(l.take (i+1)).map gY=(l.take i).map gY++[gY o]:=by rw[ht];simp
   unfold knM
   rw[←hM] at ka
   generalize (l.take (i+1)).map gY=log2 at*
   generalize hg:(l.take i).map gY=log at*
   generalize gY o=u at*
   unfold zY dI at ka
   have ka:aO Tryz.prog 28 [.agg (d9 log),.str u] (.tup [.agg (d9 log2),.sl 0 [] .full,.int .i64 0]):=ka
   unfold d9 at*
   repeat' (first|refine zB rfl d1 ?_|refine zI rfl (by first|exact la|exact fi) ?_|refine zA rfl ?_|refine aA ?_|refine aL rfl ?_|refine aH rfl kp ?_|refine aH rfl ka ?_|refine zX rfl (fB hx) ?_)
   refine⟨g1,knF l tg (i+1),knM log2,⟨hA,rfl,rfl⟩,aR.cut (k:=2) (t:=(knF l tg (i+1)).t) (l:=(knM log2).objs) (of_decide_eq_true rfl) (of_decide_eq_true rfl) rfl ⟨aI.of_closed hcl,aI.ptr (by decide),aI.ptr (by decide),aI.of_closed aB,trivial⟩ ⟨by decide,a43 _,by decide,QV _ _,trivial⟩⟩
 ·have d1:decide ((i:Int) < (l.length:Int))=false:=decide_eq_false (by omega)
  obtain rfl:i=l.length:=by omega
  rw[List.take_length] at hall ⊢
  have hk:knA l=.tup [dI (l.map gY),.bool true]:=by
   unfold knA
   rw[uA hall,hall]
  have hc:=xJ l
  rw[hk] at hc ⊢
  unfold knM
  generalize l.map gY=log at*
  unfold dI d9 at*
  repeat' (first|refine zB rfl d1 ?_|refine zI rfl la ?_|refine zA rfl ?_|refine aA ?_|refine aL rfl ?_)
  exact⟨rfl,_,rfl,_,rfl,aI.of_closed hc⟩
def cB:Ch:=⟨[98],false,cC⟩
def oB:Oo:=⟨1,2,1,0,0,[cB]⟩
def oC:Oo:=⟨1,3,4,0,2,[]⟩
def lL:List Oo:=[op1,oB,oC]
def pB:List Pr:=[⟨⟨[97],1⟩,vA⟩,⟨⟨[98],2⟩,vA⟩]
theorem a8a:B2 ⟨⟨[98],2⟩,vA⟩=true:=by unfold B2;rw[sP];decide
theorem a5e:dZ pB=true:=by simp[dZ,pB,U2,a8a]
theorem a0c:eX pB=2:=by unfold eX;rw[if_pos a5e];rfl
theorem a2u:bT pB:=by decide
theorem a88 (w:Int):mZ pB w=pB:=List.filter_eq_self.2 fun x hx=>by
 rw[Bool.not_eq_true',Bool.eq_false_iff]
 intro h
 unfold pB at hx
 have hv:x.val=vA:=by
  simp only[List.mem_cons,List.not_mem_nil,or_false] at hx
  rcases hx with rfl|rfl<;>rfl
 obtain⟨_,⟨y,hy,h0,h1,_⟩|h⟩:=tO.1 h
 ·simp only[pB,List.mem_cons,List.not_mem_nil,or_false] at hx hy
  rcases hx with rfl|rfl<;>rcases hy with rfl|rfl
  ·exact absurd h1 (by decide)
  ·exact absurd h0 (by decide)
  ·exact absurd h0 (by decide)
  ·exact absurd h1 (by decide)
 ·unfold y8 at h
  rw[hv,sP] at h
  cases h
def t2:Sg:=⟨2,0,pB,[],[⟨1,2,0,2⟩]⟩
def t3:Sg:=⟨2,2,pB,[],[⟨1,3,0,2⟩]⟩
theorem a4n {m:Int} {u:List Sn} (h0:0≤m) (h1:m≤2) (h3:mN u=true):cJ ⟨2,m,pB,[],u⟩=true:=by
 unfold mN at h3
 simp only[Bool.and_eq_true,decide_eq_true_eq] at h3
 exact cE.2 ⟨h0,h1,(by decide:(2:Int)≤1000000000),(by show pB.length≤200;decide),a2u,a5e,(by show eX pB≤2;rw[a0c];decide),rfl,(by show 0≤50;decide),h3.1,h3.2⟩
theorem a52:eA s1 oB=((t2,(0,2)),0):=xT (z:=({s1 with pairs:=pB,last:=2},(0,2))) (aAm (by decide) (by decide) (by decide) (by decide)) (by decide) (by
 unfold wU B5
 rw[if_pos (by rfl),if_neg (by decide)]
 rfl) (by decide) (by decide)
theorem a56:eA t2 oC=((t3,(0,2)),0):=xT (z:=({t2 with pairs:=pB,mark:=2},(0,2))) (a4n (by decide) (by decide) (by decide)) (by decide) (by
 unfold wU
 rw[if_neg (by decide),if_neg (by decide),if_neg (by decide)]
 unfold u6
 rw[show t2.pairs=pB from rfl,a88]
 rfl) (by decide) (by decide)
theorem aAd:pF lL=t3:=by
 unfold pF lL
 rw[iG (by rw[a5d]),a5d,iG (by rw[a52]),a52,iG (by rw[a56]),a56]
 rfl
theorem JM:∀o,o∈lL→cY o∧o.ch.length < 1000:=by
 intro o ho
 have key:∀o:Oo,(o.ch=[cA]∨o.ch=[cB]∨o.ch=[])→cY o∧o.ch.length < 1000:=fun o h=>by
  rcases h with h|h|h
  ·unfold cY
   rw[h]
   refine⟨⟨by decide,fun c hc=>?_⟩,by decide⟩
   obtain rfl:=List.mem_singleton.1 hc
   exact⟨by decide,by decide⟩
  ·unfold cY
   rw[h]
   refine⟨⟨by decide,fun c hc=>?_⟩,by decide⟩
   obtain rfl:=List.mem_singleton.1 hc
   exact⟨by decide,by decide⟩
  ·unfold cY
   rw[h]
   exact⟨⟨by decide,fun c hc=>by cases hc⟩,by decide⟩
 unfold lL at ho
 simp only[List.mem_cons,List.not_mem_nil,or_false] at ho
 rcases ho with rfl|rfl|rfl
 ·exact key _ (.inl rfl)
 ·exact key _ (.inr (.inl rfl))
 ·exact key _ (.inr (.inr rfl))
theorem L2:lL.all pO=true:=by decide
theorem a6p:HP lL:=qE (by decide) JM L2
theorem aBc:qL pB [97] 2=some ⟨[97],1,cC⟩:=by
 show BE [97] ⟨⟨[97],1⟩,vA⟩=_
 unfold BE
 rw[sP]
 rfl
theorem aBk:qL pB [98] 2=some ⟨[98],2,cC⟩:=by
 show BE [98] ⟨⟨[98],2⟩,vA⟩=_
 unfold BE
 rw[sP]
 rfl
theorem a2s:fY [] pB=[[97],[98]]:=by decide
theorem a7m:eI t3 [] 1=([],180):=by
 unfold eI
 rw[if_neg (by decide),if_pos (by decide)]
theorem a7g:eI t3 [] 3=([],181):=by
 unfold eI
 rw[if_neg (by decide),if_neg (by decide),if_pos (by decide)]
theorem a7n:eI t3 [] 2=([⟨[97],1,cC⟩,⟨[98],2,cC⟩],0):=by
 unfold eI
 rw[if_neg (by decide),if_neg (by decide),if_neg (by decide),yI (s:=t3) (cE.1 (a4n (by decide) (by decide) (by decide))) (by decide) (by decide)]
 show (mT pB [] 2,(0:Int))=_
 unfold mT
 rw[a2s]
 simp[aBc,aBk]
def lLA:AV:=.sl 6 [op1.av,oB.av,oA oC] .full
theorem a7u:Ab.Sub lLA (AU lL .none):=by
 refine Sub.trans Sub.untag (slL (by simp[AV.cells,oA,Oo.av,Oo.cells]) (by intro y hy;obtain⟨o,_,rfl⟩:=List.mem_map.1 hy;rfl) rfl ?_)
 intro i x y j a b h1 h2 h3 h4
 match i,h1,h2 with
 |0,h1,h2=>cases h1;cases h2;rw[h3] at h4;cases h4;exact Sub.refl
 |1,h1,h2=>cases h1;cases h2;rw[h3] at h4;cases h4;exact Sub.refl
 |2,h1,h2=>cases h1;cases h2;exact UW oC rfl h3 h4
 |i+3,h1,_=>simp at h1
theorem a24 (p:aD):Ab.Sub (.sl 5 [.agg [.str p,.bool false,.int .i64 0,.int .i64 0,.sl 0 [] .full]] .full) (mU [⟨p,false,cC⟩] .none):=by
 refine Sub.trans Sub.untag (slL (by simp[AV.cells]) (by intro y hy;simp at hy;subst hy;rfl) rfl ?_)
 intro i x y j a b h1 h2 h3 h4
 match i,h1,h2 with
 |0,h1,h2=>
  simp at h1 h2
  subst h1;subst h2
  match j,h3,h4 with
  |0,h3,h4=>cases h3;cases h4;exact Sub.refl
  |1,h3,h4=>cases h3;cases h4;exact Sub.refl
  |2,h3,h4=>cases h3;cases h4;exact Sub.refl
  |3,h3,h4=>cases h3;cases h4;exact Sub.refl
  |4,h3,h4=>cases h3;cases h4;exact Sub.nil
  |j+5,h3,h4=>simp[AV.cells] at h3
 |i+1,h1,_=>simp at h1
theorem a12 (q:Int) (p:aD):Ab.Sub (.agg [.int .i64 1,.int .i64 q,.int .i64 1,.int .i64 0,.int .i64 0,.sl 5 [.agg [.str p,.bool false,.int .i64 0,.int .i64 0,.sl 0 [] .full]] .full]) (Oo.av ⟨1,q,1,0,0,[⟨p,false,cC⟩]⟩):=Sub.aggL ⟨Sub.refl,Sub.refl,Sub.refl,Sub.refl,Sub.refl,a24 p,trivial⟩
theorem IR (q:Int) (p:aD):aO Tryz.prog 29 [.int .i64 q,.str p] (Oo.av ⟨1,q,1,0,0,[⟨p,false,cC⟩]⟩):=by
 refine aU (aV aB aP) (fP _) ?_
 refine aC aF Tryz.func29 rfl (by decide) (by simp[Tryz.f29]) ?_
 repeat' (first|refine zA rfl ?_|refine aA ?_|refine aL rfl ?_|refine zR rfl ?_)
 exact⟨rfl,_,rfl,_,rfl,aI.pre (a12 q p) (aI.of_closed (fP _))⟩
theorem aBp:rdR t3 1 3=((0,2),true):=by decide
theorem aBd:rdR t3 1 4=((0,0),false):=by decide
theorem CF:aO Tryz.prog 8 [] (.bool true):=by
 refine aU (w9) (aK) ?_
 refine aC aF Tryz.func8 rfl (by decide) (by simp[Tryz.f8]) ?_
 have q1:aO Tryz.prog 29 [.int .i64 1,.str [97]] op1.av:=IR 1 [97]
 have q2:aO Tryz.prog 29 [.int .i64 2,.str [98]] oB.av:=IR 2 [98]
 have kn:=(nM lL .none (.inl rfl) (by decide) JM).sub (args:=[lLA]) ⟨a7u,trivial⟩
 unfold knA at kn
 rw[L2,uA L2] at kn
 have O:=a6p
 have k1:=a10 lL O
 have k2:=iX lL O [] (by decide) 1
 have k3:=iX lL O [] (by decide) 2
 have k4:=iX lL O [] (by decide) 3
 have k5:=sU lL O 1 3
 have k6:=sU lL O 1 4
 have k7:=R6
 rw[aAd] at k1 k2 k3 k4 k5 k6
 rw[a7m] at k2
 rw[a7n] at k3
 rw[a7g] at k4
 rw[aBp] at k5
 rw[aBd] at k6
 unfold lLA oA at kn
 unfold T8 s9 at k2 k3 k4
 unfold ZW gG at k5 k6
 unfold lD at k7
 generalize lL.map gY=ll at*
 unfold dI d9 at*
 repeat' (first|refine zA rfl ?_|refine aA ?_|refine aL rfl ?_|refine aH rfl q1 ?_|refine aH rfl q2 ?_|refine aH rfl kn ?_|refine aH rfl k1 ?_|refine aH rfl k2 ?_|refine aH rfl k3 ?_|refine aH rfl k4 ?_|refine aH rfl k5 ?_|refine aH rfl k6 ?_|refine aH rfl k7 ?_|refine zX rfl (⟨by decide,rfl⟩) ?_|refine zR rfl ?_)
 exact⟨rfl,_,rfl,_,rfl,aI.of_closed aK⟩
theorem nG {s:Sg} (hs:dX s) (dir:aD) (w:Int):(eI s dir w).1.length < 1000000∧∀e,e∈(eI s dir w).1→oL e:=by
 have hm:=hs.many
 unfold eI
 split
 ·exact⟨by show 0 < 1000000;decide,fun e he=>by cases he⟩
 ·split
  ·exact⟨by show 0 < 1000000;decide,fun e he=>by cases he⟩
  ·split
   ·exact⟨by show 0 < 1000000;decide,fun e he=>by cases he⟩
   ·obtain⟨a,b⟩:=IX hs.rise hs.st dir w
    exact⟨by omega,b⟩
theorem a5c {s:aD} (h:¬300 < s.length):decide ((s.length:Int) > 300)=false:=decide_eq_false (by omega)
theorem a54 {s:aD} (h:300 < s.length):decide ((s.length:Int) > 300)=true:=decide_eq_true (by omega)
theorem EQ {l m:List Oo} (h:HP l):pF (l++m)=(kK m (pF l) (kK l AR []).1.2).1.1:=by
 unfold pF
 rw[I5 l m _ _ h.run.1]
theorem RX {l m:List Oo} (h:HP (l++m)) (h1:HP l):jO (pF l) (pF (l++m)):=by
 rw[EQ h1]
 exact (tS h1.run.2.1 h1.run.2.2 (fun o ho=>⟨(h.may o (by simp[ho])).1,(h.may o (by simp[ho])).2.1⟩)).2.2.2
theorem G0 (l:List Oo) (hb:a6d l) (many:Int) (dir:aD) (w:Int):aO Tryz.prog 3 [AU l .none,.int .i64 many,.str dir,.int .i64 w] (.bool true):=by
 refine aU (aY (iL l (.inl rfl)) (bK aB aP aB)) (aK) ?_
 refine aC aF Tryz.func3 rfl (by decide) (by simp[Tryz.f3]) ?_
 have kb:=JK l .none hb.1 hb.2
 have la:=bA Oo.av l
 have kd:=CF
 cases h:nZ l
 ·rw[h] at kb
  obtain⟨hl,hall⟩:=JP h
  have hs:∀o,o∈l→cY o∧o.ch.length < 1000:=fun o hm=>by
   have:=C3 (hall o hm)
   exact⟨this.1,by omega⟩
  unfold AU at*
  by_cases h1:many < 0
  ·have d1:decide (many < 0)=true:=decide_eq_true h1
   repeat' (first|refine zB rfl d1 ?_|refine zA rfl ?_|refine aA ?_|refine aL rfl ?_|refine aH rfl kb ?_)
   exact⟨rfl,_,rfl,_,rfl,aI.of_closed aK⟩
  have d1:decide (many < 0)=false:=decide_eq_false h1
  by_cases h2:(l.length:Int) < many
  ·have d2:decide (many > (l.length:Int))=true:=decide_eq_true h2
   repeat' (first|refine zB rfl (by first|exact d1|exact d2) ?_|refine zI rfl la ?_|refine zA rfl ?_|refine aA ?_|refine aL rfl ?_|refine aH rfl kb ?_)
   exact⟨rfl,_,rfl,_,rfl,aI.of_closed aK⟩
  have d2:decide (many > (l.length:Int))=false:=decide_eq_false h2
  by_cases h3:300 < dir.length
  ·have d3:=a54 h3
   repeat' (first|refine zB rfl (by first|exact d1|exact d2|exact d3) ?_|refine zI rfl la ?_|refine zA rfl ?_|refine aA ?_|refine aL rfl ?_|refine aH rfl kb ?_)
   exact⟨rfl,_,rfl,_,rfl,aI.of_closed aK⟩
  have d3:=a5c h3
  obtain⟨m,rfl⟩:∃m:Nat,many=(m:Int):=⟨many.toNat,by omega⟩
  have hml:m≤l.length:=by omega
  have sl:(0:Int)≤0∧(0:Int)≤(m:Int)∧(m:Int)≤((l.map Oo.av).length:Int)∧((l.map Oo.av).take (m:Int).toNat).drop (0:Int).toNat=(l.take m).map Oo.av:=⟨by omega,by omega,by rw[la];omega,by simp⟩
  have kx:=nM (l.take m) .none (.inl rfl) (by rw[List.length_take];omega) (fun o ho=>hs o (List.mem_of_mem_take ho))
  have ky:=nM l .none (.inl rfl) (by omega) hs
  unfold AU knA at kx ky
  cases hx:(l.take m).all pO
  ·rw[hx] at kx
   generalize ((l.take m).takeWhile pO).map gY=lx at*
   generalize (l.takeWhile pO).map gY=ly at*
   generalize l.all pO=b at*
   unfold dI d9 at*
   repeat' (first|refine zB rfl (by first|exact d1|exact d2|exact d3) ?_|refine zI rfl la ?_|refine zA rfl ?_|refine aA ?_|refine aL rfl ?_|refine aH rfl kb ?_|refine aH rfl kx ?_|refine aH rfl ky ?_|refine aH rfl kd ?_|refine m7 aF rfl (sl) ?_)
   exact⟨rfl,_,rfl,_,rfl,aI.of_closed aK⟩
  ·cases hy:l.all pO
   ·rw[hx] at kx
    rw[hy] at ky
    generalize ((l.take m).takeWhile pO).map gY=lx at*
    generalize (l.takeWhile pO).map gY=ly at*
    unfold dI d9 at*
    repeat' (first|refine zB rfl (by first|exact d1|exact d2|exact d3) ?_|refine zI rfl la ?_|refine zA rfl ?_|refine aA ?_|refine aL rfl ?_|refine aH rfl kb ?_|refine aH rfl kx ?_|refine aH rfl ky ?_|refine aH rfl kd ?_|refine m7 aF rfl (sl) ?_)
    exact⟨rfl,_,rfl,_,rfl,aI.of_closed aK⟩
   ·rw[hx,uA hx] at kx
    rw[hy,uA hy] at ky
    have O1:=qE (by rw[List.length_take];omega) (fun o ho=>hs o (List.mem_of_mem_take ho)) hx
    have O2:=qE (by omega) hs hy
    have ka:=iX _ O1 dir (by omega) w
    have kc:=iX _ O2 dir (by omega) w
    have K:jO (pF (l.take m)) (pF l):=by
     have e:l.take m++l.drop m=l:=List.take_append_drop m l
     have:=RX (l:=l.take m) (m:=l.drop m) (by rw[e];exact O2) O1
     rw[e] at this
     exact this
    have S1:=cE.1 O1.run.2.1
    have S2:=cE.1 O2.run.2.1
    obtain⟨f1,f2,f3⟩:=LA S1 S2 K dir w
    obtain⟨q1,q2⟩:=nG S1 dir w
    obtain⟨q3,q4⟩:=nG S2 dir w
    generalize eI (pF (l.take m)) dir w=A at*
    generalize eI (pF l) dir w=B at*
    generalize (l.take m).map gY=lx at*
    generalize l.map gY=ly at*
    obtain⟨a,e⟩:=A
    obtain⟨b,f⟩:=B
    have sm:=CP a b .none .none q1 q3 q2 q4
    unfold T8 s9 at*
    unfold dI d9 at*
    by_cases he:e=0
    ·subst he
     by_cases hf:f=0
     ·subst hf
      obtain rfl:a=b:=f2 rfl rfl
      rw[decide_eq_true rfl] at sm
      repeat' (first|refine zB rfl (by first|exact d1|exact d2|exact d3) ?_|refine zI rfl la ?_|refine zA rfl ?_|refine aA ?_|refine aL rfl ?_|refine aH rfl kb ?_|refine aH rfl kx ?_|refine aH rfl ky ?_|refine aH rfl kd ?_|refine aH rfl ka ?_|refine aH rfl kc ?_|refine aH rfl sm ?_|refine m7 aF rfl (sl) ?_)
      exact⟨rfl,_,rfl,_,rfl,aI.of_closed aK⟩
     ·have hf2:f=180:=f1 rfl hf
      subst hf2
      repeat' (first|refine zB rfl (by first|exact d1|exact d2|exact d3) ?_|refine zI rfl la ?_|refine zA rfl ?_|refine aA ?_|refine aL rfl ?_|refine aH rfl kb ?_|refine aH rfl kx ?_|refine aH rfl ky ?_|refine aH rfl kd ?_|refine aH rfl ka ?_|refine aH rfl kc ?_|refine m7 aF rfl (sl) ?_)
      exact⟨rfl,_,rfl,_,rfl,aI.of_closed aK⟩
    ·have d4:decide (e=0)=false:=decide_eq_false he
     by_cases h5:e=181
     ·have d5:decide (e=181)=true:=decide_eq_true h5
      repeat' (first|refine zB rfl (by first|exact d1|exact d2|exact d3|exact d4|exact d5) ?_|refine zI rfl la ?_|refine zA rfl ?_|refine aA ?_|refine aL rfl ?_|refine aH rfl kb ?_|refine aH rfl kx ?_|refine aH rfl ky ?_|refine aH rfl kd ?_|refine aH rfl ka ?_|refine aH rfl kc ?_|refine m7 aF rfl (sl) ?_)
      exact⟨rfl,_,rfl,_,rfl,aI.of_closed aK⟩
     ·have d5:decide (e=181)=false:=decide_eq_false h5
      have h6:e=f:=(f3 he).resolve_left h5
      have d6:decide (e=f)=true:=decide_eq_true h6
      repeat' (first|refine zB rfl (by first|exact d1|exact d2|exact d3|exact d4|exact d5|exact d6) ?_|refine zI rfl la ?_|refine zA rfl ?_|refine aA ?_|refine aL rfl ?_|refine aH rfl kb ?_|refine aH rfl kx ?_|refine aH rfl ky ?_|refine aH rfl kd ?_|refine aH rfl ka ?_|refine aH rfl kc ?_|refine m7 aF rfl (sl) ?_)
      exact⟨rfl,_,rfl,_,rfl,aI.of_closed aK⟩
 ·rw[h] at kb
  unfold AU at*
  repeat' (first|refine zA rfl ?_|refine aA ?_|refine aL rfl ?_|refine aH rfl kb ?_)
  exact⟨rfl,_,rfl,_,rfl,aI.of_closed aK⟩
theorem QN {l:List Oo} {j:Nat} {x:Oo} (hl:l.length=j+1) (hx:l[j]? =some x):l=l.take j++[x]:=by
 obtain⟨hj,rfl⟩:=List.getElem?_eq_some_iff.1 hx
 rw[List.take_append_getElem]
 rw[List.take_of_length_le (by omega)]
theorem WW {l:List Oo} {o:Oo} (h:HP (l++[o])) (hn:HP l):pF (l++[o]++[o])=pF (l++[o]):=by
 have e1:pF (l++[o])=(eA (pF l) o).1.1:=by
  rw[EQ hn,iG (y1 hn.run.2.1 hn.run.2.2 (h.may o (by simp)).1 (h.may o (by simp)).2.1).e]
  rfl
 have hr:=h.run
 rw[EQ h,e1]
 have A:=SB hn.run.2.1 hn.run.2.2 (h.may o (by simp)).1 (h.may o (by simp)).2.1
 have B:=(y1 hn.run.2.1 hn.run.2.2 (h.may o (by simp)).1 (h.may o (by simp)).2.1).e
 rw[iG (by rw[A];exact B),A]
 rfl
theorem E1 (l:List Oo) (hb:a6d l) (dir:aD) (w:Int):aO Tryz.prog 4 [AU l .none,.str dir,.int .i64 w] (.bool true):=by
 refine aU (bK (iL l (.inl rfl)) aP aB) (aK) ?_
 refine aC aF Tryz.func4 rfl (by decide) (by simp[Tryz.f4]) ?_
 have kb:=JK l .none hb.1 hb.2
 have la:=bA Oo.av l
 have kd:=CF
 cases h:nZ l
 ·rw[h] at kb
  obtain⟨hl,hall⟩:=JP h
  have hs:∀o,o∈l→cY o∧o.ch.length < 1000:=fun o hm=>by
   have:=C3 (hall o hm)
   exact⟨this.1,by omega⟩
  unfold AU at*
  by_cases h1:l.length=0
  ·have d1:decide ((l.length:Int)=0)=true:=decide_eq_true (by omega)
   repeat' (first|refine zB rfl d1 ?_|refine zI rfl la ?_|refine zA rfl ?_|refine aA ?_|refine aL rfl ?_|refine aH rfl kb ?_)
   exact⟨rfl,_,rfl,_,rfl,aI.of_closed aK⟩
  have d1:decide ((l.length:Int)=0)=false:=decide_eq_false (by omega)
  by_cases h2:25 < l.length
  ·have d2:decide ((l.length:Int) > 25)=true:=decide_eq_true (by omega)
   repeat' (first|refine zB rfl (by first|exact d1|exact d2) ?_|refine zI rfl la ?_|refine zA rfl ?_|refine aA ?_|refine aL rfl ?_|refine aH rfl kb ?_)
   exact⟨rfl,_,rfl,_,rfl,aI.of_closed aK⟩
  have d2:decide ((l.length:Int) > 25)=false:=decide_eq_false (by omega)
  by_cases h3:300 < dir.length
  ·have d3:=a54 h3
   repeat' (first|refine zB rfl (by first|exact d1|exact d2|exact d3) ?_|refine zI rfl la ?_|refine zA rfl ?_|refine aA ?_|refine aL rfl ?_|refine aH rfl kb ?_)
   exact⟨rfl,_,rfl,_,rfl,aI.of_closed aK⟩
  have d3:=a5c h3
  obtain⟨j,hj⟩:∃j,l.length=j+1:=⟨l.length - 1,by omega⟩
  have hx:l[j]? =some l[j]:=List.getElem?_eq_getElem (by omega)
  generalize l[j]=o at hx
  have el:=QN hj hx
  have fj:IntKind.wrap .i64 ((l.length:Int) - 1)=(j:Int):=by
   rw[Go.Ab.wrap_small (by omega) (by omega)]
   omega
  obtain⟨ho,hoc⟩:=hs o (by rw[el];simp)
  have kx:=nM l .none (.inl rfl) (by omega) hs
  have hs2:∀x,x∈l++[o]→cY x∧x.ch.length < 1000:=fun x hx=>by
   rcases List.mem_append.1 hx with hx|hx
   ·exact hs x hx
   ·rw[List.mem_singleton.1 hx]
    exact⟨ho,hoc⟩
  have ky:=nM (l++[o]) .none (.inl rfl) (by simp;omega) hs2
  unfold AU knA at kx ky
  rw[List.map_append] at ky
  have ky:=fun g=>ky.sub (args:=[.sl 6 (l.map Oo.av++[o].map Oo.av) (.tok 2 g)]) ⟨Sub.untag,trivial⟩
  cases hA:l.all pO
  ·rw[hA] at kx
   generalize (l.takeWhile pO).map gY=lx at*
   generalize ((l++[o]).takeWhile pO).map gY=ly at*
   generalize (l++[o]).all pO=b at*
   unfold dI d9 at*
   repeat' (first|refine zB rfl (by first|exact d1|exact d2|exact d3) ?_|refine zI rfl (by first|exact la|exact fj) ?_|refine zA rfl ?_|refine aA ?_|refine aL rfl ?_|refine aH rfl kb ?_|refine aH rfl kx ?_|refine aH rfl (ky _) ?_|refine aH rfl kd ?_|refine zX rfl (fB hx) ?_|refine zR rfl ?_|refine zP rfl rfl ?_|refine zQ rfl ?_)
   exact⟨rfl,_,rfl,_,rfl,aI.of_closed aK⟩
  ·have hok:pO o=true:=List.all_eq_true.1 hA o (by rw[el];simp)
   have hB:(l++[o]).all pO=true:=by rw[List.all_append,hA];simp[hok]
   rw[hA,uA hA] at kx
   rw[hB,uA hB] at ky
   have O1:=qE (by omega) hs hA
   have O2:=qE (by simp;omega) hs2 hB
   have O0:HP (l.take j):=qE (by rw[List.length_take];omega) (fun x hx=>hs x (List.mem_of_mem_take hx)) (List.all_eq_true.2 fun x hx=>List.all_eq_true.1 hA x (List.mem_of_mem_take hx))
   have E:pF (l++[o])=pF l:=by
    have:=WW (l:=l.take j) (o:=o) (by rw[←el];exact O1) O0
    rw[←el] at this
    exact this
   have S1:=cE.1 O1.run.2.1
   have k1:=iX _ O1 dir (by omega) w
   have k2:=iX _ O2 dir (by omega) w
   have k3:=sU _ O1 o.client o.seq
   have k4:=sU _ O2 o.client o.seq
   obtain⟨q1,q2⟩:=nG S1 dir w
   rw[E] at k2 k4
   generalize eI (pF l) dir w=A at*
   generalize rdR (pF l) o.client o.seq=R at*
   generalize l.map gY=lx at*
   generalize (l++[o]).map gY=ly at*
   obtain⟨a,e⟩:=A
   obtain⟨⟨rc,rn⟩,rb⟩:=R
   have sm:=CP a a .none .none q1 q1 q2 q2
   rw[decide_eq_true rfl] at sm
   have c1:=a3d rc rn
   have c2:(rb==rb)=true:=by simp
   have c3:decide (e=e)=true:=decide_eq_true rfl
   unfold ZW gG at k3 k4
   unfold T8 s9 at*
   unfold dI d9 at*
   repeat' (first|refine zB rfl (by first|exact d1|exact d2|exact d3|exact c1|exact c2|exact c3) ?_|refine zI rfl (by first|exact la|exact fj) ?_|refine zA rfl ?_|refine aA ?_|refine aL rfl ?_|refine aH rfl kb ?_|refine aH rfl kx ?_|refine aH rfl (ky _) ?_|refine aH rfl kd ?_|refine aH rfl k1 ?_|refine aH rfl k2 ?_|refine aH rfl k3 ?_|refine aH rfl k4 ?_|refine aH rfl sm ?_|refine zX rfl (fB hx) ?_|refine zR rfl ?_|refine zP rfl rfl ?_|refine zQ rfl ?_)
   exact⟨rfl,_,rfl,_,rfl,aI.of_closed aK⟩
 ·rw[h] at kb
  unfold AU at*
  repeat' (first|refine zA rfl ?_|refine aA ?_|refine aL rfl ?_|refine aH rfl kb ?_)
  exact⟨rfl,_,rfl,_,rfl,aI.of_closed aK⟩
end Go.Proofs.YteliblifgdofgaaGreatDoor
