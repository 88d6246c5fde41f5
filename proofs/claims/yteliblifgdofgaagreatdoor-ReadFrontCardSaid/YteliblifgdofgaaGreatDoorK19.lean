/- Parts of the proof, one behind the other. No further condition. -/
import Derived.Test.YteliblifgdofgaaGreatDoorK18
import Derived.Test.YteliblifgdofgaaGreatDoorK14
import Derived.Test.YteliblifgdofgaaGreatDoorK15
set_option linter.unusedVariables false
set_option linter.unusedSimpArgs false
set_option maxRecDepth 100000
set_option maxHeartbeats 8000000
namespace Go.Proofs.YteliblifgdofgaaGreatDoor
open Go.Ab
abbrev isQ (n:Int):cH→aG→Prop:=fun e N=>∃x,e=.ret x∧aI (PO 1 0).next x (.tup [])∧(PO 1 0).next≤N.next∧gE (PO 1 0).next N (PO 1 n).objs
theorem a26 (t:Tr) (hs:t.all.length < 10000000) (hv:cP t.all):aQ Tryz.prog 155 [.ptr 0 0,.ref [t.av]] (PO 1 0) (isQ (if dZ t.all=true then 0 else 1)):=by
 refine fC aF Tryz.func155 rfl (by decide) (by simp[Tryz.f155]) ?_
 cases h:dZ t.all
 ·have ka:=PD t hs hv h
  unfold Tr.av at ka ⊢
  unfold PO
  repeat' (first|refine aL rfl ?_)
  refine eB ?_
  refine eQ rfl rfl rfl rfl [] (by simp) ?_
  refine i7 ?_
  repeat' (first|refine zA rfl ?_|refine aL rfl ?_|refine AZ rfl rfl (ka) ?_)
  refine⟨rfl,_,rfl,bF.le ?_ (bF.mono (XI 1 0 1) ?_)⟩
  ·exact aG.le_cons rfl (aG.le_nil rfl)
  ·rintro m' M' ⟨rfl,gn,g0⟩
   refine⟨_,rfl,_,rfl,aI.of_closed (aS (by simp)),?_,cG (by decide) g0 (aX aB) trivial⟩
   rw[gn]
   show 1≤1
   omega
 ·have ka:=JL t hs hv h
  unfold Tr.av at ka ⊢
  unfold PO
  repeat' (first|refine aL rfl ?_)
  refine eB ?_
  refine eQ rfl rfl rfl rfl [] (by simp) ?_
  refine i7 ?_
  repeat' (first|refine zA rfl ?_|refine aA ?_|refine aL rfl ?_|refine aH rfl ka ?_)
  refine⟨rfl,_,rfl,bF.le ?_ (bF.mono (a5a 1 0) ?_)⟩
  ·exact aG.le_cons rfl (aG.le_nil rfl)
  ·rintro m' M' ⟨rfl,gn,g0⟩
   refine⟨_,rfl,_,rfl,aI.of_closed (aS (by simp)),?_,cG (by decide) g0 (aX aB) trivial⟩
   rw[gn]
   show 1≤1
   omega
theorem a7f (t:Tr) (hs:t.all.length < 10000000) (hv:cP t.all):aQ Tryz.prog 155 [.ptr 0 0,.ref [t.av]] (PO 1 0) fun e N=>e=.ret (.tup [])∧N=PO 1 (if dZ t.all=true then 0 else 1):=
 aQ.cutL (a26 t hs hv)
theorem k8 (t:Tr) (hs:t.all.length < 10000000) (hv:cP t.all):aO Tryz.prog 109 [t.av] (.bool (dZ t.all)):=by
 refine aU (aX (bG t)) (aK) ?_
 refine aC aF Tryz.func109 rfl (by decide) (by simp[Tryz.f109]) ?_
 have k1:=a7f t hs hv
 unfold Tr.av at k1 ⊢
 repeat' (first|refine zA rfl ?_|refine aA ?_|refine aL rfl ?_|refine bS rfl rfl (k1) ?_ ?_)
 ·rintro u N ⟨e,rfl⟩
  cases e
  unfold PO
  cases dZ t.all
  ·repeat' (first|refine zA rfl ?_|refine aA ?_|refine aL rfl ?_)
   exact⟨rfl,_,rfl,_,rfl,aI.of_closed aK⟩
  ·repeat' (first|refine zA rfl ?_|refine aA ?_|refine aL rfl ?_)
   exact⟨rfl,_,rfl,_,rfl,aI.of_closed aK⟩
 ·intro u N h
  cases h.1
def mO (l:List Pr):Int:=l.foldl (fun n p=>max n p.key.time) 0
def eX (l:List Pr):Int:=if dZ l=true then mO l else 0
theorem KT {l:List Pr} {i:Nat} {x:Pr} (h:l.take (i+1)=l.take i++[x]):mO (l.take (i+1))=max (mO (l.take i)) x.key.time:=by
 unfold mO
 rw[h,List.foldl_append]
 rfl
theorem a7i (a b:Int):(if true=true then (if a < b then b else a) else if b < a then b else a)=max a b:=by
 rw[if_pos rfl]
 split<;>omega
def lm (nx:Nat) (n e:Int):aG:=⟨nx,[(0,.cells [.int .i64 n]),(1,.cells [.int .i64 e])]⟩
theorem JA (nx:Nat) (m:kE) (n e:Int):bF Tryz.prog 269 [.ptr 1 0,.ptr 0 0] m (lm nx n e) (fun m' M'=>m'=m∧M'.get 0=some (.cells [.int .i64 (if e=0 then n else 0)])):=by
 refine B1 aF Tryz.func269 rfl (by decide) (by simp[Tryz.f269]) ?_
 unfold lm
 by_cases h:e=0
 ·have d1:(!decide (e=0))=false:=by simp[h]
  rw[if_pos h]
  repeat' (first|refine zB rfl d1 ?_|refine zA rfl ?_|refine aA ?_|refine aL rfl ?_)
  exact⟨rfl,⟨_,rfl⟩,rfl⟩
 ·have d1:(!decide (e=0))=true:=by simp[h]
  rw[if_neg h]
  repeat' (first|refine zB rfl d1 ?_|refine zA rfl ?_|refine aA ?_|refine aL rfl ?_)
  exact⟨rfl,⟨_,rfl⟩,rfl⟩
def FM:bJ:={f:=.func 269,cap:=[.ptr 1 0,.ptr 0 0],args:=[],keep:=[(2,.ptr 0 0)]}
def F2:bJ:={f:=.func 68,cap:=[],args:=[.ptr 1 0],keep:=[]}
abbrev a5h (n:Int):cH→aG→Prop:=fun e _=>∃x,e=.ret x∧aI 0 x (.int .i64 n)
theorem UQ {M:aG} {n k:Int} {t:List (Nat×AV)} (h:(lm M.next n 0).le M) (hk:k≠0) (h2:AF.get ⟨t,[]⟩ 2=.ptr 0 0):eF Tryz.prog iR Tryz.f205 ⟨t,[]⟩ (a5h 0) [F2,FM] (.pan (kN k)) M:=by
 refine⟨rfl,_,rfl,bF.le h (bF.mono (a6h M.next _ 0 k) ?_)⟩
 rintro m' M' ⟨rfl,gn,g0,g1⟩
 refine⟨rfl,_,rfl,bF.le (N:=lm M'.next n k) (aG.le_cons g0 (aG.le_cons g1 (aG.le_nil rfl))) (bF.mono (JA _ _ n k) ?_)⟩
 rintro m' M' ⟨rfl,g0⟩
 rw[if_neg hk] at g0
 refine⟨.int .i64 0,?_,_,rfl,aI.of_closed aB⟩
 show i5 iR M' ⟨t,[]⟩ #[.cell 2 3]=_
 simp only[i5,t7,mP,h2,cX,g0]
 rfl
theorem X9 {M:aG} {n:Int} {t:List (Nat×AV)} (h:(lm M.next n 0).le M) (h2:AF.get ⟨t,[]⟩ 2=.ptr 0 0):eF Tryz.prog iR Tryz.f205 ⟨t,[]⟩ (a5h n) [F2,FM] .ret M:=by
 refine⟨rfl,_,rfl,bF.le h (bF.mono (aA0 M.next _ 0) ?_)⟩
 rintro m' M' ⟨rfl,gn,g0,g1⟩
 refine⟨rfl,_,rfl,bF.le (N:=lm M'.next n 0) (aG.le_cons g0 (aG.le_cons g1 (aG.le_nil rfl))) (bF.mono (JA _ _ n 0) ?_)⟩
 rintro m' M' ⟨rfl,g0⟩
 rw[if_pos rfl] at g0
 refine⟨.int .i64 n,?_,_,rfl,aI.of_closed aB⟩
 show i5 iR M' ⟨t,[]⟩ #[.cell 2 3]=_
 simp only[i5,t7,mP,h2,cX,g0]
 rfl
theorem z7 {k i o:Nat} (h:decide (i < k)=true):∀x,x∈[AV.ptr i o]→aI k x x:=by
 intro x hx
 simp at hx
 subst hx
 exact aI.ptr h
theorem VN:CK 2 [F2,FM]:=by
 have e:∀x,x∈([]:List AV)→aI 2 x x:=fun x hx=>by cases hx
 have e2:∀p:Nat×AV,p∈([]:List (Nat×AV))→aI 2 p.2 p.2:=fun x hx=>by cases hx
 refine⟨rfl,e,z7 (k:=2) (i:=1) rfl,e2,rfl,?_,e,?_,trivial⟩
 ·intro x hx
  rcases List.mem_cons.1 hx with rfl|hx
  ·exact aI.ptr rfl
  ·exact z7 (k:=2) (i:=0) rfl x hx
 ·intro p hp
  rcases List.mem_cons.1 hp with rfl|hp
  ·exact aI.ptr (k:=2) (id:=0) rfl
  ·cases hp
def DG (A:List Pr) (i:Nat):AF:=⟨[(2,.ptr 0 0),(8,vrA A .none),(9,.int .i64 (A.length:Int)),(10,.int .i64 (i:Int))],[F2,FM]⟩
theorem PV (t:Tr) (hs:t.all.length < 10000000) (hv:cP t.all):aO Tryz.prog 205 [t.av] (.int .i64 (eX t.all)):=by
 refine aU (aX (bG t)) aB ?_
 refine fC aF Tryz.func205 rfl (by decide) (by simp[Tryz.f205]) ?_
 unfold eX
 cases h:dZ t.all
 ·have ka:=PD t hs hv h
  unfold Tr.av at ka ⊢
  rw[if_neg (by simp)]
  repeat' (first|refine zA rfl ?_|refine aA ?_|refine aL rfl ?_)
  refine eB ?_
  refine GG rfl rfl lZ ?_
  refine eQ rfl rfl rfl rfl [(2,.ptr 0 0)] (by intro p hp;simp at hp;subst hp;rfl) ?_
  refine i7 ?_
  repeat' (first|refine aL rfl ?_)
  refine eB ?_
  refine eQ rfl rfl rfl rfl [] (by simp) ?_
  refine i7 ?_
  repeat' (first|refine zA rfl ?_|refine aL rfl ?_|refine AZ rfl rfl (ka) ?_)
  exact UQ (n:=0) (aG.le_cons rfl (aG.le_cons rfl (aG.le_nil rfl))) (by decide) rfl
 ·have ka:=JL t hs hv h
  have lv:((ZI t.all).length:Int)=(t.all.length:Int):=by simp[ZI]
  unfold Tr.av at ka ⊢
  rw[if_pos rfl]
  unfold vrA at ka
  repeat' (first|refine zA rfl ?_|refine aA ?_|refine aL rfl ?_)
  refine eB ?_
  refine GG rfl rfl lZ ?_
  refine eQ rfl rfl rfl rfl [(2,.ptr 0 0)] (by intro p hp;simp at hp;subst hp;rfl) ?_
  refine i7 ?_
  repeat' (first|refine aL rfl ?_)
  refine eB ?_
  refine eQ rfl rfl rfl rfl [] (by simp) ?_
  refine i7 ?_
  repeat' (first|refine zI rfl lv ?_|refine zA rfl ?_|refine aA ?_|refine aL rfl ?_|refine aH rfl ka ?_)
  generalize t.all=A at*
  refine bC A.length (fun i f N=>N=lm 2 (mO (A.take i)) 0∧f=DG A i) (Nat.zero_le _) ⟨rfl,rfl⟩ (aR.le ?_ (aG.le_cons rfl (aG.le_cons rfl (aG.le_nil rfl)))) ?_
  ·unfold DG
   repeat (refine AF.le_cons rfl ?_)
   exact AF.le_nil rfl
  rintro i f N hi ⟨rfl,rfl⟩
  by_cases h1:i < A.length
  ·have d1:decide ((i:Int) < (A.length:Int))=true:=by simp;omega
   have hx:A[i]? =some A[i]:=List.getElem?_eq_getElem h1
   have fi:=aZ (i:=i) (by omega)
   have ht:=bM hx
   generalize A[i]=x at hx ht
   have hx':(ZI A)[i]? =some (IV x).av:=by unfold ZI;rw[List.getElem?_map,hx];rfl
   have mx:=a7i (mO (A.take i)) x.key.time
   rw[←KT ht] at mx
   unfold DG lm vrA
   repeat' (first|refine zB rfl d1 ?_|refine zI rfl (by first|exact fi|exact mx) ?_|refine zA rfl ?_|refine aA ?_|refine aL rfl ?_|refine zX rfl (⟨Int.natCast_nonneg _,hx'⟩) ?_)
   refine⟨h1,DG A (i+1),lm 2 (mO (A.take (i+1))) 0,⟨rfl,rfl⟩,aR.cutD (k:=2) (t:=(DG A (i+1)).t) (l:=(lm 2 (mO (A.take (i+1))) 0).objs) (by show 2≤2;omega) (by show 2≤3;omega) VN ⟨?_,?_,?_,?_,trivial⟩ (cG (by decide) rfl (aX aB) (cG (by decide) rfl (aX aB) trivial))⟩
   ·exact aI.ptr rfl
   ·exact aI.of_closed (rB A)
   ·exact aI.of_closed aB
   ·exact aI.of_closed aB
  ·have d1:decide ((i:Int) < (A.length:Int))=false:=by simp;omega
   obtain rfl:i=A.length:=by omega
   rw[List.take_length]
   unfold DG lm
   repeat' (first|refine zB rfl d1 ?_|refine zA rfl ?_|refine aA ?_|refine aL rfl ?_)
   exact X9 (aG.le_cons rfl (aG.le_cons rfl (aG.le_nil rfl))) rfl
def mM (l:List Pr) (p:aD) (w:Int):Int:=if dZ l=false then 1 else if bN p=false then 20 else if w < 0 then 1 else 0
theorem Y1 (t:Tr) (hs:t.all.length < 10000000) (hv:cP t.all) (p:aD) (hp:p.length < 1000000) (w:Int) (h:mM t.all p w=0):aO Tryz.prog 69 [t.av,.str p,.int .i64 w] (.tup []):=by
 refine aU (bK (bG t) aP aB) (aS (by simp)) ?_
 refine aC aF Tryz.func69 rfl (by decide) (by simp[Tryz.f69]) ?_
 have k1:=k8 t hs hv
 have k2:=gV p (by omega)
 unfold mM at h
 cases h1:dZ t.all
 ·rw[if_pos h1] at h
  cases h
 ·rw[if_neg (by simp[h1])] at h
  cases h2:bN p
  ·rw[if_pos h2] at h
   cases h
  ·rw[if_neg (by simp[h2])] at h
   have d3:decide (w < 0)=false:=by
    by_cases h3:w < 0
    ·rw[if_pos h3] at h
     cases h
    ·simp[h3]
   rw[h1] at k1
   rw[h2] at k2
   unfold Tr.av at k1 ⊢
   repeat' (first|refine zB rfl d3 ?_|refine zA rfl ?_|refine aA ?_|refine aL rfl ?_|refine aH rfl k1 ?_|refine aH rfl k2 ?_)
   exact⟨rfl,_,rfl,_,rfl,aI.of_closed (aS (by simp))⟩
theorem a0e (t:Tr) (hs:t.all.length < 10000000) (hv:cP t.all) (p:aD) (hp:p.length < 1000000) (w:Int) (h:mM t.all p w≠0):N1 Tryz.prog 69 [t.av,.str p,.int .i64 w] (.pan (kN (mM t.all p w))):=by
 refine tA (bK (bG t) aP aB) (cI _) ?_
 refine aC aF Tryz.func69 rfl (by decide) (by simp[Tryz.f69]) ?_
 have k1:=k8 t hs hv
 have k2:=gV p (by omega)
 unfold mM at h ⊢
 cases h1:dZ t.all
 ·rw[if_pos rfl]
  rw[h1] at k1
  unfold Tr.av at k1 ⊢
  repeat' (first|refine zA rfl ?_|refine aA ?_|refine aL rfl ?_|refine aH rfl k1 ?_)
  refine dR rfl rfl rfl rfl rfl ?_
  exact⟨rfl,aI.of_closed (cI 1)⟩
 ·rw[h1,if_neg (by simp)] at h
  rw[if_neg (by simp)]
  cases h2:bN p
  ·rw[if_pos rfl]
   rw[h1] at k1
   rw[h2] at k2
   unfold Tr.av at k1 ⊢
   repeat' (first|refine zA rfl ?_|refine aA ?_|refine aL rfl ?_|refine aH rfl k1 ?_|refine aH rfl k2 ?_)
   refine dR rfl rfl rfl rfl rfl ?_
   exact⟨rfl,aI.of_closed (cI 20)⟩
  ·rw[h2,if_neg (by simp)] at h
   rw[if_neg (by simp)]
   by_cases h3:w < 0
   ·rw[if_pos h3]
    have d3:decide (w < 0)=true:=by simp[h3]
    rw[h1] at k1
    rw[h2] at k2
    unfold Tr.av at k1 ⊢
    repeat' (first|refine zB rfl d3 ?_|refine zA rfl ?_|refine aA ?_|refine aL rfl ?_|refine aH rfl k1 ?_|refine aH rfl k2 ?_)
    refine dR rfl rfl rfl rfl rfl ?_
    exact⟨rfl,aI.of_closed (cI 1)⟩
   ·rw[if_neg h3] at h
    exact absurd rfl h
structure En where
 path:aD
 time:Int
 meta_:Mt
deriving DecidableEq
def En.cells (x:En):List AV:=[.str x.path,.int .i64 x.time,.int .i64 x.meta_.size,.int .i64 x.meta_.mode,iA x.meta_.ch .none]
def En.av (x:En):AV:=.agg x.cells
theorem zF (x:En):∀c,c∈x.cells→aN c:=by
 intro c hc
 simp[En.cells] at hc
 rcases hc with rfl|rfl|rfl|rfl|rfl
 ·exact aP
 ·exact aB
 ·exact aB
 ·exact aB
 ·exact gU _ (.inl rfl)
theorem D1 (x:En):aN x.av:=bU (zF x)
def YE:En:=⟨[],0,cC⟩
def BE (p:aD) (x:Pr):Option En:=if x.key.path=p∧(bY x.val).2.1=false then some ⟨p,x.key.time,(bY x.val).1⟩ else none
def qL (l:List Pr) (p:aD) (w:Int):Option En:=((dF l ⟨p,min w 1000000000⟩).head?).bind (BE p)
def enA (x:Option En):AV:=.tup [(x.getD YE).av,.bool x.isSome]
theorem xO (x:Option En):aN (enA x):=aS (aV (D1 _) aK)
theorem qY {k sz:Nat} {t:eE}:aI k (.agg [.str [],.int .i64 0,.int .i64 0,.int .i64 0,.sl sz [] t]) YE.av:=
 aI.aggL ⟨aI.of_closed aP,aI.of_closed aB,aI.of_closed aB,aI.of_closed aB,aI.nil,trivial⟩
theorem VB {p:aD} {w:Int} (h1:bN p=true) (h2:0≤w):kJ ⟨p,min w 1000000000⟩=true:=by
 unfold kJ
 simp[h1]
 omega
theorem a9l (t:Tr) (hs:t.all.length < 10000000) (hv:cP t.all) (hst:dZ t.all=true) (p:aD) (hp:p.length < 1000000) (hpp:bN p=true) (w:Int) (hw:0≤w):aO Tryz.prog 73 [t.av,.str p,.int .i64 w] (enA (qL t.all p w)):=by
 refine aU (bK (bG t) aP aB) (xO _) ?_
 refine aC aF Tryz.func73 rfl (by decide) (by simp[Tryz.f73]) ?_
 have kf:=T4 p w hp
 unfold L9 at kf
 rw[if_pos (VB hpp hw)] at kf
 have k0:=sM
 have kt:=J4 t hs ⟨p,min w 1000000000⟩ 1
 unfold qL
 have hsub:∀x,x∈dF t.all ⟨p,min w 1000000000⟩→x∈t.all:=fun x hx=>(List.dropWhile_sublist _).subset hx
 have hle:(dF t.all ⟨p,min w 1000000000⟩).length≤t.all.length:=(List.dropWhile_sublist _).length_le
 generalize dF t.all ⟨p,min w 1000000000⟩=L at*
 unfold Tr.av at kt ⊢
 cases L with
 |nil=>
  rw[List.take_nil] at kt
  repeat' (first|refine zA rfl ?_|refine aA ?_|refine aL rfl ?_|refine aH rfl kf ?_|refine aH rfl k0 ?_|refine aH rfl kt ?_)
  exact⟨rfl,_,rfl,_,rfl,aI.tup2 qY (aI.of_closed aK)⟩
 |cons x r=>
  have e:(x::r).take (min (1:Int).toNat t.all.length)=[x]:=by
   rw[show min (1:Int).toNat t.all.length=1 by simp at hle;omega]
   rfl
  rw[e] at kt
  have hx:=hsub x (by simp)
  have hb:=hv x hx
  have ho:B2 x=true:=by
   unfold dZ at hst
   rw[List.all_eq_true] at hst
   exact hst x hx
  have kr:=rZ x hb.1 hb.2 ho
  show _
  by_cases hpx:x.key.path=p
  ·have d1:(!(x.key.path==p))=false:=by simp[hpx]
   cases hg:(bY x.val).2.1
   ·have e2:Option.bind (List.head? (x::r)) (BE p)=some ⟨p,x.key.time,(bY x.val).1⟩:=by
     show BE p x=_
     unfold BE
     rw[if_pos ⟨hpx,hg⟩]
    rw[e2]
    unfold IV at kr
    rw[hg] at kr
    repeat' (first|refine zB rfl d1 ?_|refine zA rfl ?_|refine aA ?_|refine aL rfl ?_|refine aH rfl kf ?_|refine aH rfl k0 ?_|refine aH rfl kt ?_|refine aH rfl kr ?_|refine zX rfl (⟨Int.le_refl 0,rfl⟩) ?_)
    exact⟨rfl,_,rfl,_,rfl,aI.of_closed (xO (some ⟨p,x.key.time,(bY x.val).1⟩))⟩
   ·have e2:Option.bind (List.head? (x::r)) (BE p)=none:=by
     show BE p x=_
     unfold BE
     rw[if_neg (by rw[hg];simp)]
    rw[e2]
    unfold IV at kr
    rw[hg] at kr
    repeat' (first|refine zB rfl d1 ?_|refine zA rfl ?_|refine aA ?_|refine aL rfl ?_|refine aH rfl kf ?_|refine aH rfl k0 ?_|refine aH rfl kt ?_|refine aH rfl kr ?_|refine zX rfl (⟨Int.le_refl 0,rfl⟩) ?_)
    exact⟨rfl,_,rfl,_,rfl,aI.tup2 qY (aI.of_closed aK)⟩
  ·have d1:(!(x.key.path==p))=true:=by simp[hpx]
   have e2:Option.bind (List.head? (x::r)) (BE p)=none:=by
    show BE p x=_
    unfold BE
    rw[if_neg (by simp[hpx])]
   rw[e2]
   repeat' (first|refine zB rfl d1 ?_|refine zA rfl ?_|refine aA ?_|refine aL rfl ?_|refine aH rfl kf ?_|refine aH rfl k0 ?_|refine aH rfl kt ?_|refine zX rfl (⟨Int.le_refl 0,rfl⟩) ?_)
   exact⟨rfl,_,rfl,_,rfl,aI.tup2 qY (aI.of_closed aK)⟩
theorem I2 {l:List Pr} {p:aD} {w:Int} (h:mM l p w=0):dZ l=true∧bN p=true∧0≤w:=by
 unfold mM at h
 cases h1:dZ l
 ·rw[if_pos h1] at h
  cases h
 ·rw[if_neg (by simp[h1])] at h
  cases h2:bN p
  ·rw[if_pos h2] at h
   cases h
  ·rw[if_neg (by simp[h2])] at h
   refine⟨rfl,rfl,?_⟩
   by_cases h3:w < 0
   ·rw[if_pos h3] at h
    cases h
   ·omega
theorem ZK (t:Tr) (hs:t.all.length < 10000000) (dir:aD) (hd:dir.length < 1000000) (hp:bN dir=true) (M:aG):
  aQ Tryz.prog 70 [t.av,.str dir] M fun e N=>e=.ret (.tup [.ptr M.next 0,.int .i64 0])∧N=M.push (.cells (jH t dir t.all)):=by
 refine aQ.frameN (R1:=fun e d=>e=.ret (.tup [.ptr 0 0,.int .i64 0])∧d=jH t dir t.all) ((ER t hs dir hd hp).mono ?_) (aV (bG t) aP) ?_
 ·rintro e N ⟨rfl,rfl⟩
  exact⟨rfl,_,rfl,rfl,rfl⟩
 ·rintro e d ⟨rfl,rfl⟩
  refine⟨fE _ _ _,.ret (.tup [.ptr M.next 0,.int .i64 0]),?_,rfl,rfl⟩
  refine eP.tup rfl ?_
  intro i x y hx hy
  match i,hx,hy with
  |0,hx,hy=>
   simp at hx hy
   subst hx;subst hy
   exact eP.ptr
  |1,hx,hy=>
   simp at hx hy
   subst hx;subst hy
   exact eP.closed aB
  |i+2,hx,_=>simp at hx
theorem nQ (x:Pr) (r:List Pr):(dM x.key.path (x::r)).length≤r.length:=by
 unfold dM
 rw[List.dropWhile_cons,if_pos (by simp)]
 exact (List.dropWhile_sublist _).length_le
def jK (dir:aD):Nat→List Pr→List aD
 |0,_=>[]
 |n+1,m=>match cK dir m with
  |[]=>[]
  |x::r=>x.key.path::jK dir n (dM x.key.path (x::r))
def fY (dir:aD) (m:List Pr):List aD:=jK dir m.length m
theorem vW (dir:aD):∀(n:Nat) (m:List Pr) (k:Nat),m.length≤n→m.length≤k→jK dir n m=jK dir k m
 |0,m,k,hn,hk=>by
  have:m=[]:=List.length_eq_zero_iff.1 (by omega)
  subst this
  cases k<;>rfl
 |n+1,m,0,hn,hk=>by
  have:m=[]:=List.length_eq_zero_iff.1 (by omega)
  subst this
  rfl
 |n+1,m,k+1,hn,hk=>by
  unfold jK
  have hsub:=(iY dir m).length_le
  generalize cK dir m=s at hsub
  cases s with
  |nil=>rfl
  |cons x r=>
   have:=nQ x r
   simp at hsub
   show x.key.path::jK dir n _=x.key.path::jK dir k _
   rw[vW dir n _ k (by omega) (by omega)]
theorem r6 {dir:aD} {m:List Pr} (h:cK dir m=[]):fY dir m=[]:=by
 unfold fY
 cases m with
 |nil=>rfl
 |cons a b=>
  show jK dir (b.length+1) _=_
  unfold jK
  rw[h]
theorem n8 {dir:aD} {m r:List Pr} {x:Pr} (h:cK dir m=x::r):fY dir m=x.key.path::fY dir (dM x.key.path (x::r)):=by
 unfold fY
 have hsub:=(iY dir m).length_le
 rw[h] at hsub
 cases m with
 |nil=>cases h
 |cons a b=>
  show jK dir (b.length+1) _=_
  rw[jK,h]
  have:=nQ x r
  simp at hsub
  show x.key.path::jK dir _ _=_
  rw[vW dir b.length _ (dM x.key.path (x::r)).length (by omega) (Nat.le_refl _)]
def mT (l:List Pr) (dir:aD) (w:Int):List En:=(fY dir l).filterMap fun p=>qL l p w
def pQ (l:List Pr) (dir:aD) (w:Int):List En×Int:=if mM l dir w=0 then (mT l dir w,0) else ([],mM l dir w)
def s9 (l:List En) (t:eE):AV:=.sl 5 (l.map En.av) t
theorem tP (l:List En):∀x,x∈l.map En.av→∀c,c∈x.cells→aN c:=by
 intro x hx
 obtain⟨p,_,rfl⟩:=List.mem_map.1 hx
 exact zF p
theorem AE (l:List En):aN (s9 l .none):=bR (.inl rfl) (fun x hx=>by obtain⟨p,_,rfl⟩:=List.mem_map.1 hx;exact D1 p) (tP l)
def T8 (x:List En×Int):AV:=.tup [s9 x.1 .none,.int .i64 x.2]
theorem kD (x:List En×Int):aN (T8 x):=aS (aV (AE _) aB)
def lsD:bJ:={f:=.func 68,cap:=[],args:=[.ptr 0 0],keep:=[(7,.ptr 0 0)]}
abbrev lsR (z:List En×Int):cH→aG→Prop:=fun e _=>∃x,e=.ret x∧aI 0 x (T8 z)
theorem W8 {M:aG} {x:AV} {n:Int} {t:List (Nat×AV)} (h6:AF.get ⟨t,[]⟩ 6=x) (h7:AF.get ⟨t,[]⟩ 7=.ptr 0 0) (g0:M.get 0=some (.cells [.int .i64 n])):
  i5 iR M ⟨t,[]⟩ Tryz.f32.results=some (.tup [x,.int .i64 n]):=by
 have a2:cX M iR 33 (.ptr 0 0)=some (.int .i64 n):=by
  simp only[cX,g0]
  rfl
 show i5 iR M ⟨t,[]⟩ #[.tmp 6,.cell 7 33]=_
 simp only[i5,t7,mP,h6,h7,a2]
theorem a6w {M:aG} {n:Int} {t:List (Nat×AV)} (h:(PO M.next 0).le M) (h6:AF.get ⟨t,[]⟩ 6=.sl 0 [] .full) (h7:AF.get ⟨t,[]⟩ 7=.ptr 0 0):
  eF Tryz.prog iR Tryz.f32 ⟨t,[]⟩ (lsR ([],n)) [lsD] (.pan (kN n)) M:=by
 refine⟨rfl,_,rfl,bF.le h (bF.mono (XI M.next 0 n) ?_)⟩
 rintro m' M' ⟨rfl,gn,g0⟩
 exact⟨_,W8 h6 h7 g0,_,rfl,aI.tup2 aI.nil (aI.of_closed aB)⟩
theorem a5u {M:aG} {l:List En} {x:AV} {t:List (Nat×AV)} (h:(PO M.next 0).le M) (hs:aI 0 x (s9 l .none)) (h6:AF.get ⟨t,[]⟩ 6=x) (h7:AF.get ⟨t,[]⟩ 7=.ptr 0 0):
  eF Tryz.prog iR Tryz.f32 ⟨t,[]⟩ (lsR (l,0)) [lsD] .ret M:=by
 refine⟨rfl,_,rfl,bF.le h (bF.mono (a5a M.next 0) ?_)⟩
 rintro m' M' ⟨rfl,gn,g0⟩
 exact⟨_,W8 h6 h7 g0,_,rfl,aI.tup2 hs (aI.of_closed aB)⟩
def skP (dir:aD) (m:List Pr):aD:=(AO (cK dir m)).1.1
def skB (dir:aD) (m:List Pr):Bool:=(AO (cK dir m)).1.2
def skR (dir:aD) (m:List Pr):List Pr:=(AO (cK dir m)).2
def lsN (t:Tr) (dir:aD) (m:List Pr) (g:Nat):aG:=⟨3,[(0,.cells [.int .i64 0]),(1,.cells (jH t dir m)),(2,.spare g)]⟩
def lsF (t:Tr) (w:Int) (out:List En) (g:Nat) (p:aD) (ok:Bool):AF:=⟨[(0,t.av),(2,.int .i64 w),(6,s9 out (.tok 2 g)),(7,.ptr 0 0),(10,.fn (.func 72) [.ptr 1 0] []),(11,.str p),(12,.bool ok)],[lsD]⟩
theorem a0x (t:Tr) (hs:t.all.length < 10000000) (hv:cP t.all) (dir:aD) (hp:dir.length < 1000000) (w:Int):aO Tryz.prog 32 [t.av,.str dir,.int .i64 w] (T8 (pQ t.all dir w)):=by
 refine aU (bK (bG t) aP aB) (kD _) ?_
 refine fC aF Tryz.func32 rfl (by decide) (by simp[Tryz.f32]) ?_
 unfold pQ
 by_cases h:mM t.all dir w=0
 ·have ko:=Y1 t hs hv dir hp w h
  obtain⟨h1,h2,h3⟩:=I2 h
  have ka:=fun (p:aD) (hl:p.length < 1000000) (hp:bN p=true)=>a9l t hs hv h1 p hl hp w h3
  have kn:=ZK t hs dir hp h2
  have kx:=fun (l:List Pr) (h:mK l)=>a47 t dir hp l h
  have k0:=sM
  rw[if_pos h]
  unfold mT
  have hall:∀x,x∈t.all→bN x.key.path=true∧x.key.path.length < 1000000:=fun x hx=>by
   unfold dZ at h1
   rw[List.all_eq_true] at h1
   exact⟨IL (h1 x hx),(hv x hx).1⟩
  unfold Tr.av at ko ka kn ⊢
  repeat' (first|refine zA rfl ?_|refine aA ?_|refine aL rfl ?_)
  refine eB ?_
  refine eQ rfl rfl rfl rfl [(7,.ptr 0 0)] (by intro p hp;simp at hp;subst hp;rfl) ?_
  refine i7 ?_
  repeat' (first|refine zA rfl ?_|refine aA ?_|refine aL rfl ?_|refine aH rfl ko ?_|refine bS rfl rfl (kn _) ?_ ?_)
  rotate_left
  ·intro u N h
   cases h.1
  rintro u N ⟨e,rfl⟩
  cases e
  repeat' (first|refine zA rfl ?_|refine aA ?_|refine aL rfl ?_|refine aH rfl k0 ?_)
  have hA:∀x,x∈t.all→bN x.key.path=true∧x.key.path.length < 1000000:=hall
  generalize hAA:t.all=A at*
  refine bS rfl rfl (iV (R:=fun e N=>e=.ret (sb (skP dir A,skB dir A))∧N=_) 1 rfl (Nat.lt_succ_self 1) (kx A (fun x hx=>(hA x hx).2)) (pD _) ⟨kP.ptr rfl,trivial⟩ ⟨rfl,rfl⟩) ?_ (fun u M' h=>by cases h.1)
  rintro u N ⟨e,rfl⟩
  cases e
  unfold sb
  repeat' (first|refine zA rfl ?_|refine aA ?_|refine aL rfl ?_)
  refine lB (fun k f N=>∃(g:Nat) (rest:List Pr) (out:List En),rest.length=k∧(∀x,x∈rest→x∈A)∧out++(fY dir rest).filterMap (fun p=>qL A p w)=(fY dir A).filterMap (fun p=>qL A p w)∧out.length+rest.length≤A.length∧N=lsN t dir (skR dir rest) g∧f=lsF t w out g (skP dir rest) (skB dir rest)) (k:=A.length) ⟨0,A,[],rfl,fun _ h=>h,rfl,by simp,rfl,rfl⟩
   ((aR.tok 6 rfl (sz':=5) (.inr rfl)).trans (aR.le ?_ (aG.le_cons rfl (aG.le_cons rfl (aG.le_cons rfl (aG.le_nil rfl)))))) ?_
  ·unfold lsF
   repeat (refine AF.le_cons rfl ?_)
   exact AF.le_nil rfl
  rintro k f N ⟨g,rest,out,rfl,hin,hinv,hlen,rfl,rfl⟩
  unfold lsN lsF Tr.av
  unfold skP skB skR
  have hu:=@r6 dir rest
  have hc:=@n8 dir rest
  have hsub:=iY dir rest
  generalize cK dir rest=sk at hu hc hsub
  cases sk with
  |nil=>
   rw[hu rfl] at hinv
   have e:out=(fY dir A).filterMap (fun p=>qL A p w):=by simpa using hinv
   repeat' (first|refine zA rfl ?_|refine aA ?_|refine aL rfl ?_)
   exact a5u (aG.le_cons rfl (aG.le_nil rfl)) (by rw[←e];exact aI.untag (AE out)) rfl rfl
  |cons x r=>
   rw[hc rfl,List.filterMap_cons] at hinv
   have hx:=hA x (hin x (hsub.subset (by simp)))
   have kax:=ka x.key.path hx.2 hx.1
   have hsr:=nQ x r
   have hl2:r.length+1≤rest.length:=hsub.length_le
   have hin2:∀y,y∈dM x.key.path (x::r)→y∈A:=fun y hy=>hin y (hsub.subset ((List.dropWhile_sublist _).subset hy))
   have kx2:=kx (dM x.key.path (x::r)) (fun y hy=>(hA y (hin2 y hy)).2)
   unfold enA at kax
   have lo:out.length < 10000000:=by omega
   have lm:((out.map En.av).length:Int)=(out.length:Int):=by simp
   have fin:∀(out2:List En) (g2:Nat) (M2:aG) (f2:AF),out2++(fY dir (dM x.key.path (x::r))).filterMap (fun p=>qL A p w)=(fY dir A).filterMap (fun p=>qL A p w)→out2.length≤out.length+1→f2.d=[lsD]→BV 3 f2 (lsF t w out2 g2 (skP dir (dM x.key.path (x::r))) (skB dir (dM x.key.path (x::r)))).t→3≤M2.next→M2.get 0=some (.cells [.int .i64 0])→M2.get 1=some (.cells (jH t dir (skR dir (dM x.key.path (x::r)))))→M2.get 2=some (.spare g2)→
     ∃k2 f'' M'',k2 < rest.length∧(∃(g:Nat) (rest:List Pr) (out:List En),rest.length=k2∧(∀x,x∈rest→x∈A)∧out++(fY dir rest).filterMap (fun p=>qL A p w)=(fY dir A).filterMap (fun p=>qL A p w)∧out.length+rest.length≤A.length∧M''=lsN t dir (skR dir rest) g∧f''=lsF t w out g (skP dir rest) (skB dir rest))∧aR 2 f2 M2 f'' M'':=by
    intro out2 g2 M2 f2 q1 q2 q3 q4 q5 q6 q7 q8
    refine⟨(dM x.key.path (x::r)).length,lsF t w out2 g2 (skP dir (dM x.key.path (x::r))) (skB dir (dM x.key.path (x::r))),lsN t dir (skR dir (dM x.key.path (x::r))) g2,by omega,⟨g2,_,out2,rfl,hin2,q1,by omega,rfl,rfl⟩,?_⟩
    have hd:CK 3 f2.d:=by
     rw[q3]
     refine⟨rfl,fun x hx=>(by cases hx),z7 (k:=3) (i:=0) rfl,?_,trivial⟩
     intro p hp
     rcases List.mem_cons.1 hp with rfl|hp
     ·exact aI.ptr (k:=3) (id:=0) rfl
     ·cases hp
    have:=aR.cutD (n0:=2) (k:=3) (t:=(lsF t w out2 g2 (skP dir (dM x.key.path (x::r))) (skB dir (dM x.key.path (x::r)))).t) (l:=(lsN t dir (skR dir (dM x.key.path (x::r))) g2).objs) (by omega) q5 hd q4 (cG (by decide) q6 (aX aB) (cG (by decide) q7 (fE t dir _) ⟨by decide,by rw[q8];rfl,trivial⟩))
    rw[q3] at this
    exact this
   cases hat:qL A x.key.path w with
   |none=>
    rw[hat] at kax hinv
    repeat' (first|refine zA rfl ?_|refine aA ?_|refine aL rfl ?_|refine aH rfl kax ?_)
    refine bS rfl rfl (iV (R:=fun e N=>e=.ret (sb (skP dir (dM x.key.path (x::r)),skB dir (dM x.key.path (x::r))))∧N=_) 1 rfl (by show 1 < 4;omega) kx2 (pD _) ⟨kP.ptr rfl,trivial⟩ ⟨rfl,rfl⟩) ?_ (fun u M' h=>by cases h.1)
    rintro u N ⟨e,rfl⟩
    cases e
    unfold sb
    repeat' (first|refine zA rfl ?_|refine aA ?_)
    refine fin out g _ _ hinv (by omega) rfl ⟨?_,?_,?_,?_,?_,?_,?_,trivial⟩ (by show 3≤4;omega) rfl rfl rfl
    ·exact aI.of_closed (bG t)
    ·exact aI.of_closed aB
    ·exact aI.tok rfl (tP _)
    ·exact aI.ptr rfl
    ·exact aI.fn (by simp;exact aI.ptr rfl) (by simp)
    ·exact aI.of_closed aP
    ·exact aI.of_closed aK
   |some y=>
    rw[hat] at kax hinv
    unfold s9
    repeat' (first|refine zA rfl ?_|refine aA ?_|refine aL rfl ?_|refine aH rfl kax ?_|refine zR rfl ?_|refine zP rfl rfl ?_)
    refine bS rfl rfl (iV (R:=fun e N=>e=.ret (sb (skP dir (dM x.key.path (x::r)),skB dir (dM x.key.path (x::r))))∧N=_) 1 rfl (by show 1 < 4;omega) kx2 (pD _) ⟨kP.ptr rfl,trivial⟩ ⟨rfl,rfl⟩) ?_ (fun u M' h=>by cases h.1)
    rintro u N ⟨e,rfl⟩
    cases e
    unfold sb
    repeat' (first|refine zA rfl ?_|refine aA ?_)
    refine fin (out++[y]) (g+1) _ _ (by rw[List.append_assoc];exact hinv) (by simp) rfl ⟨?_,?_,?_,?_,?_,?_,?_,trivial⟩ (by show 3≤4;omega) rfl rfl rfl
    ·exact aI.of_closed (bG t)
    ·exact aI.of_closed aB
    ·have e:AV.sl 5 ((out++[y]).map En.av) (.tok 2 (g+1))=.sl 5 (out.map En.av++[y.av]) (.tok 2 (g+1)):=by simp
     show aI 3 _ (AV.sl 5 ((out++[y]).map En.av) (.tok 2 (g+1)))
     have:=aI.tok (k:=3) (id:=2) (g:=g+1) (sz:=5) rfl (tP (out++[y]))
     rw[e] at this ⊢
     exact this
    ·exact aI.ptr rfl
    ·exact aI.fn (by simp;exact aI.ptr rfl) (by simp)
    ·exact aI.of_closed aP
    ·exact aI.of_closed aK
 ·have ko:=a0e t hs hv dir hp w h
  unfold Tr.av at ko ⊢
  rw[if_neg h]
  repeat' (first|refine zA rfl ?_|refine aA ?_|refine aL rfl ?_)
  refine eB ?_
  refine eQ rfl rfl rfl rfl [(7,.ptr 0 0)] (by intro p hp;simp at hp;subst hp;rfl) ?_
  refine i7 ?_
  refine aL rfl ?_
  refine eB ?_
  refine GG rfl rfl rW ?_
  refine GG rfl rfl rW ?_
  refine GG rfl rfl rW ?_
  refine a0l rfl rfl rfl rfl (ko _) ?_ ?_
  ·rintro u M' ⟨e,_⟩
   cases e
  ·rintro u M' ⟨e,rfl⟩
   cases e
   exact a6w (aG.le_cons rfl (aG.le_nil rfl)) rfl rfl
def FL (l:List Pr) (at_:Int) (c:List Ch):Bool:=dZ l&&decide (1≤at_)&&decide (at_≤1000000000)&&d8 c&&decide (eX l < at_)
def AW (at_:Int) (c:Ch):Pr:=⟨⟨c.path,at_⟩,(cL c.meta_ c.gone).1⟩
noncomputable def mY (t:Tr) (at_:Int) (c:List Ch):Tr:=c.foldl (fun t x=>mX t (AW at_ x)) t
noncomputable def J8 (t:Tr) (at_:Int) (c:List Ch):AV:=if FL t.all at_ c=true then .tup [(mY t at_ c).av,.int .i64 0] else .tup [.nilptr,.int .i64 1]
theorem H9 (t:Tr) (at_:Int) (c:List Ch):aN (J8 t at_ c):=by
 unfold J8
 split
 ·exact aS (aV (bG _) aB)
 ·exact aS (aV dO aB)
theorem yY {at_:Int}:∀(c:List Ch) (t:Tr),t.all.length+c.length < 10000000→(mY t at_ c).all.length≤t.all.length+c.length∧(mY t at_ c).all=c.foldl (fun l x=>cQ l (AW at_ x)) t.all
 |[],t,_=>⟨Nat.le_refl _,rfl⟩
 |x::r,t,h=>by
  simp only[List.length_cons] at h
  have h1:=K6 (t:=t) (p:=AW at_ x) (by omega)
  have h2:=(jX t.all (AW at_ x)).2.1
  have ih:=yY (at_:=at_) r (mX t (AW at_ x)) (by rw[h1];omega)
  rw[h1] at ih
  refine⟨?_,ih.2⟩
  simp only[List.length_cons]
  have:=ih.1
  show (mY (mX t (AW at_ x)) at_ r).all.length≤_
  omega
theorem QT {t:Tr} {at_:Int} {l:List Ch} {i:Nat} {x:Ch} (ht:l.take (i+1)=l.take i++[x]):mY t at_ (l.take (i+1))=mX (mY t at_ (l.take i)) (AW at_ x):=by
 unfold mY
 rw[ht,List.foldl_append]
 rfl
noncomputable def TG (t:Tr) (at_:Int) (l:List Ch) (tg:eE) (i:Nat):AF:=⟨[(0,t.av),(1,.int .i64 at_),(34,mU l tg),(35,.int .i64 (l.length:Int)),(36,.int .i64 (i:Int))],[]⟩
theorem a5l (t:Tr) (at_:Int) (c:List Ch) (tg:eE) (htg:tg=.none∨tg=.full) (hs:t.all.length+c.length < 1000000) (hv:cP t.all) (hc:∀x,x∈c→gP x):aO Tryz.prog 271 [t.av,.int .i64 at_,mU c tg] (J8 t at_ c):=by
 refine aU (bK (bG t) aB (gQ c htg)) (H9 _ _ _) ?_
 refine aC aF Tryz.func271 rfl (by decide) (by simp[Tryz.f271]) ?_
 have k1:=k8 t (by omega) hv
 have k2:=yB c tg (by omega) hc
 have k3:=PV t (by omega) hv
 have la:=bA Ch.av c
 have no:∀h:FL t.all at_ c=false,J8 t at_ c=.tup [.nilptr,.int .i64 1]:=fun h=>by unfold J8;rw[if_neg (by simp[h])]
 unfold FL at no
 cases h1:dZ t.all
 ·rw[no (by rw[h1];rfl)]
  rw[h1] at k1
  unfold Tr.av at k1 ⊢
  repeat' (first|refine zA rfl ?_|refine aA ?_|refine aL rfl ?_|refine aH rfl k1 ?_)
  exact⟨rfl,_,rfl,_,rfl,aI.of_closed (aS (aV dO aB))⟩
 ·rw[h1] at k1
  by_cases h2:1≤at_
  ·have d2:decide (at_ < 1)=false:=by simp;omega
   by_cases h3:at_≤1000000000
   ·have d3:decide (1000000000 < at_)=false:=by simp;omega
    cases h4:d8 c
    ·rw[no (by rw[h4];simp)]
     rw[h4] at k2
     unfold Tr.av at k1 ⊢
     unfold mU at*
     repeat' (first|refine zB rfl (by first|exact d2|exact d3) ?_|refine zA rfl ?_|refine aA ?_|refine aL rfl ?_|refine aH rfl k1 ?_|refine aH rfl k2 ?_)
     exact⟨rfl,_,rfl,_,rfl,aI.of_closed (aS (aV dO aB))⟩
    ·rw[h4] at k2
     by_cases h5:eX t.all < at_
     ·have d5:decide (at_≤eX t.all)=false:=by simp;omega
      have yes:J8 t at_ c=.tup [(mY t at_ c).av,.int .i64 0]:=by
       unfold J8 FL
       rw[h1,h4,decide_eq_true h2,decide_eq_true h3,decide_eq_true h5]
       rfl
      rw[yes]
      have hm:∀x,x∈c→iM x=true:=by
       unfold d8 at h4
       simp at h4
       exact h4.1.2
      unfold Tr.av at k1 k3 ⊢
      unfold mU at*
      repeat' (first|refine zB rfl (by first|exact d2|exact d3|exact d5) ?_|refine zI rfl la ?_|refine zA rfl ?_|refine aA ?_|refine aL rfl ?_|refine aH rfl k1 ?_|refine aH rfl k2 ?_|refine aH rfl k3 ?_)
      refine bC c.length (fun i f N=>N=⟨0,[]⟩∧f=TG (mY t at_ (c.take i)) at_ c tg i) (Nat.zero_le _) ⟨rfl,rfl⟩ (aR.le ?_ (aG.le_nil rfl)) ?_
      ·unfold TG mU Tr.av
       repeat (refine AF.le_cons rfl ?_)
       exact AF.le_nil rfl
      rintro i f N hi ⟨rfl,rfl⟩
      unfold TG mU
      by_cases g1:i < c.length
      ·have d1:decide ((i:Int) < (c.length:Int))=true:=by simp;omega
       have hx:c[i]? =some c[i]:=List.getElem?_eq_getElem g1
       have fi:=aZ (i:=i) (by omega)
       have ht:=bM hx
       have hmx:=BK (hm _ (List.getElem_mem g1))
       have hcx:=hc _ (List.getElem_mem g1)
       generalize c[i]=x at hx ht hmx hcx
       have kv:=HR x.meta_ x.gone hcx.2
       have e0:FK (cL x.meta_ x.gone)=.tup [.str (cL x.meta_ x.gone).1,.int .i64 0]:=by unfold FK;rw[hmx]
       rw[e0] at kv
       have hl:=(yY (at_:=at_) (c.take i) t (by rw[List.length_take];omega)).1
       rw[List.length_take] at hl
       have kp:=PZ (t:=mY t at_ (c.take i)) (p:=AW at_ x) (by omega)
       rw[←QT ht] at kp
       generalize mY t at_ (c.take i)=u at kp
       generalize hU:mY t at_ (c.take (i+1))=U at kp
       unfold AW at kp
       have hUc:=bG U
       unfold Tr.av at kp ⊢
       repeat' (first|refine zB rfl d1 ?_|refine zI rfl fi ?_|refine zA rfl ?_|refine aA ?_|refine aL rfl ?_|refine aH rfl kv ?_|refine aH rfl kp ?_|refine zX rfl (fB hx) ?_)
       refine⟨g1,TG U at_ c tg (i+1),⟨0,[]⟩,⟨rfl,rfl⟩,aR.cut (k:=0) (t:=(TG U at_ c tg (i+1)).t) (l:=[]) (Nat.le_refl _) (Nat.zero_le _) rfl ⟨?_,?_,?_,?_,?_,trivial⟩ trivial⟩
       ·exact aI.of_closed hUc
       ·exact aI.of_closed aB
       ·exact aI.of_closed (gQ c htg)
       ·exact aI.of_closed aB
       ·exact aI.of_closed aB
      ·have d1:decide ((i:Int) < (c.length:Int))=false:=by simp;omega
       obtain rfl:i=c.length:=by omega
       rw[List.take_length]
       have hUc:=bG (mY t at_ c)
       generalize mY t at_ c=U at*
       unfold Tr.av
       repeat' (first|refine zB rfl d1 ?_|refine zA rfl ?_|refine aA ?_|refine aL rfl ?_)
       exact⟨rfl,_,rfl,_,rfl,aI.of_closed (aS (aV hUc aB))⟩
     ·have d5:decide (at_≤eX t.all)=true:=by simp;omega
      rw[no (by rw[decide_eq_false h5];simp)]
      unfold Tr.av at k1 k3 ⊢
      unfold mU at*
      repeat' (first|refine zB rfl (by first|exact d2|exact d3|exact d5) ?_|refine zA rfl ?_|refine aA ?_|refine aL rfl ?_|refine aH rfl k1 ?_|refine aH rfl k2 ?_|refine aH rfl k3 ?_)
      exact⟨rfl,_,rfl,_,rfl,aI.of_closed (aS (aV dO aB))⟩
   ·have d3:decide (1000000000 < at_)=true:=by simp;omega
    rw[no (by rw[decide_eq_false h3];simp)]
    unfold Tr.av at k1 ⊢
    repeat' (first|refine zB rfl (by first|exact d2|exact d3) ?_|refine zA rfl ?_|refine aA ?_|refine aL rfl ?_|refine aH rfl k1 ?_)
    exact⟨rfl,_,rfl,_,rfl,aI.of_closed (aS (aV dO aB))⟩
  ·have d2:decide (at_ < 1)=true:=by simp;omega
   rw[no (by rw[decide_eq_false h2];simp)]
   unfold Tr.av at k1 ⊢
   repeat' (first|refine zB rfl d2 ?_|refine zA rfl ?_|refine aA ?_|refine aL rfl ?_|refine aH rfl k1 ?_)
   exact⟨rfl,_,rfl,_,rfl,aI.of_closed (aS (aV dO aB))⟩
structure Ld where
 at_:Int
 batch:List Ch
def Ld.av (x:Ld):AV:=.agg [.int .i64 x.at_,mU x.batch .none]
theorem a93 {a b:En}:a=b↔a.path=b.path∧a.time=b.time∧a.meta_=b.meta_:=by
 obtain⟨p,t,m⟩:=a
 obtain⟨q,u,n⟩:=b
 simp
def oL (x:En):Prop:=x.meta_.ch.length < 1000000
theorem QK (a b:En) (ha:oL a) (hb:oL b):aO Tryz.prog 22 [a.av,b.av] (.bool (decide (a=b))):=by
 intro M
 refine aC aF Tryz.func22 rfl (by decide) (by simp[Tryz.f22]) ?_
 have k:=RW a.meta_ b.meta_ ha hb
 cases d1:a.path==b.path
 ·rw[decide_eq_false (p:=a=b) (by rintro rfl;simp at d1)]
  repeat' (first|refine zB rfl d1 ?_|refine zA rfl ?_|refine aA ?_|refine aL rfl ?_)
  exact⟨rfl,_,rfl,rfl,rfl⟩
 ·cases d2:decide (a.time=b.time)
  ·rw[decide_eq_false (p:=a=b) (by rintro rfl;simp at d2)]
   repeat' (first|refine zB rfl (by first|exact d1|exact d2) ?_|refine zA rfl ?_|refine aA ?_|refine aL rfl ?_)
   exact⟨rfl,_,rfl,rfl,rfl⟩
  ·have e:decide (a=b)=decide (a.meta_=b.meta_):=by
    rw[decide_eq_decide,a93]
    simp at d1 d2
    simp[d1,d2]
   rw[e]
   repeat' (first|refine zB rfl (by first|exact d1|exact d2) ?_|refine zA rfl ?_|refine aA ?_|refine aL rfl ?_|refine aH rfl k ?_)
   exact⟨rfl,_,rfl,rfl,rfl⟩
theorem CP (a b:List En) (ta tb:eE) (ha:a.length < 1000000) (hb:b.length < 1000000) (sa:∀x,x∈a→oL x) (sb:∀x,x∈b→oL x):aO Tryz.prog 10 [s9 a ta,s9 b tb] (.bool (decide (a=b))):=by
 intro M
 refine aC aF Tryz.func10 rfl (by decide) (by simp[Tryz.f10]) ?_
 have la:=bA En.av a
 have lb:=bA En.av b
 unfold s9
 by_cases hl:a.length=b.length
 ·have d0:(!decide ((a.length:Int)=(b.length:Int)))=false:=by simp;omega
  repeat' (first|refine zB rfl d0 ?_|refine zI rfl (by first|exact la|exact lb) ?_|refine zA rfl ?_|refine aA ?_|refine aL rfl ?_)
  refine bC a.length (fun i f N=>N=M∧(a.take i=b.take i)∧f=⟨[(0,.sl 5 (a.map En.av) ta),(1,.sl 5 (b.map En.av) tb),(5,.int .i64 (i:Int))],[]⟩) (Nat.zero_le _) ⟨rfl,by simp,rfl⟩ (aR.le ?_ (aG.le_refl _)) ?_
  ·skip
   repeat (refine AF.le_cons rfl ?_)
   exact AF.le_nil rfl
  rintro i f N hi ⟨rfl,hinv,rfl⟩
  by_cases h1:i < a.length
  ·have d1:decide ((i:Int) < (a.length:Int))=true:=by simp;omega
   have hx:a[i]? =some a[i]:=List.getElem?_eq_getElem h1
   have fi:=aZ (i:=i) (by omega)
   have ht:=bM hx
   have hm:=List.getElem_mem h1
   generalize a[i]=x at hx ht hm
   have hy:b[i]? =some b[i]:=List.getElem?_eq_getElem (by omega)
   have hu:=bM hy
   generalize b[i]=y at hy hu
   have kx:=QK x y (sa x (List.mem_of_getElem? hx)) (sb y (List.mem_of_getElem? hy))
   by_cases h3:x=y
   ·rw[decide_eq_true h3] at kx
    repeat' (first|refine zB rfl d1 ?_|refine zI rfl (by first|exact fi|exact la) ?_|refine zA rfl ?_|refine aA ?_|refine aL rfl ?_|refine aH rfl kx ?_|refine zX rfl (fB hx) ?_|refine zX rfl (fB hy) ?_|refine aW mixed [0,1,4,5,2,3,6,7,8,9] [.P,.P,.R,.R,.P,.P,.R,.R,.P,.P] rfl rfl (by kernel_rfl) ?_)
    refine⟨h1,_,_,⟨rfl,by rw[ht,hu,hinv,h3],rfl⟩,aR.le ?_ (aG.le_refl _)⟩
    repeat (refine AF.le_cons rfl ?_)
    exact AF.le_nil rfl
   ·rw[decide_eq_false h3] at kx
    have e:decide (a=b)=false:=by
     refine decide_eq_false fun e=>h3 ?_
     subst e
     rw[hx] at hy
     cases hy
     rfl
    rw[e]
    repeat' (first|refine zB rfl d1 ?_|refine zI rfl (by first|exact fi|exact la) ?_|refine zA rfl ?_|refine aA ?_|refine aL rfl ?_|refine aH rfl kx ?_|refine zX rfl (fB hx) ?_|refine zX rfl (fB hy) ?_|refine aW mixed [0,1,4,5,2,3,6,7,8,9] [.P,.P,.R,.R,.P,.P,.R,.R,.P,.P] rfl rfl (by kernel_rfl) ?_)
    exact⟨rfl,_,rfl,rfl,rfl⟩
  ·have d1:decide ((i:Int) < (a.length:Int))=false:=by simp;omega
   obtain rfl:i=a.length:=by omega
   rw[zH,hl,zH] at hinv
   have e:decide (a=b)=true:=by simp[hinv]
   rw[e]
   repeat' (first|refine zB rfl d1 ?_|refine zI rfl la ?_|refine zA rfl ?_|refine aA ?_|refine aL rfl ?_)
   exact⟨rfl,_,rfl,rfl,rfl⟩
 ·have d0:(!decide ((a.length:Int)=(b.length:Int)))=true:=by simp;omega
  have e:decide (a=b)=false:=decide_eq_false fun e=>hl (by rw[e])
  rw[e]
  repeat' (first|refine zB rfl d0 ?_|refine zI rfl (by first|exact la|exact lb) ?_|refine zA rfl ?_|refine aA ?_|refine aL rfl ?_)
  exact⟨rfl,_,rfl,rfl,rfl⟩
theorem LK (m:Mt) (no:Bool) (h:m.ch.length≤30):(cL m no).1.length < 1000:=by
 unfold cL yP
 split
 ·simp
 ·split
  ·split
   ·have:=lJ (jI m)
    have hl:(jI m).length=3+m.ch.length:=by simp[jI];omega
    simp
    omega
   ·simp
  ·simp
def okS (t:Tr) (n:Nat):Prop:=t.all.length≤n∧∀p,p∈t.all→p.key.path.length≤200∧p.val.length < 1000
theorem okS.vals {t:Tr} {n:Nat} (h:okS t n):cP t.all:=fun p hp=>by have:=h.2 p hp;omega
theorem EI {l:List Pr} (hr:bT l) (k:Ky):dF l k=l.filter fun p=>!bI p.key k:=by
 induction l with
 |nil=>rfl
 |cons p r ih=>
  obtain⟨h1,h2⟩:=List.pairwise_cons.1 hr
  unfold dF at ih ⊢
  cases h:bI p.key k
  ·rw[List.dropWhile_cons,if_neg (by rw[h];simp),List.filter_cons,if_pos (by rw[h];rfl)]
   congr 1
   refine (List.filter_eq_self.2 fun q hq=>?_).symm
   cases h3:bI q.key k
   ·rfl
   ·rw[j8 (h1 q hq) h3] at h;cases h
  ·rw[List.dropWhile_cons,if_pos h,List.filter_cons,if_neg (by rw[h];simp),ih h2]
theorem GP {P:aD}:∀{s:List Pr},bT s→(∀q,q∈s→q.key.path=P∨bl P q.key.path=true)→(s.dropWhile fun q=>q.key.path==P)=s.filter fun q=>!(q.key.path==P)
 |[],_,_=>rfl
 |q::s,hr,h=>by
  obtain⟨h1,h2⟩:=List.pairwise_cons.1 hr
  cases hq:q.key.path==P
  ·rw[List.dropWhile_cons,if_neg (by rw[hq];simp)]
   have hq':q.key.path≠P:=by simpa using hq
   have hb:bl P q.key.path=true:=(h q (by simp)).resolve_left hq'
   refine (List.filter_eq_self.2 fun x hx=>?_).symm
   have hx':bl P x.key.path=true:=by
    rcases List.mem_cons.1 hx with rfl|hx
    ·exact hb
    ·have h3:=h1 x hx
     unfold bI at h3
     simp only[Bool.or_eq_true,Bool.and_eq_true,beq_iff_eq] at h3
     rcases h3 with h3|⟨h3,_⟩
     ·exact nA hb h3
     ·rw[←h3];exact hb
   cases h4:x.key.path==P
   ·rfl
   ·have h5:x.key.path=P:=by simpa using h4
    rw[h5,dW] at hx'
    cases hx'
  ·rw[List.dropWhile_cons,if_pos hq,List.filter_cons,if_neg (by rw[hq];simp)]
   exact GP h2 fun x hx=>h x (by simp[hx])
theorem yX {p:Pr} {r:List Pr} (hr:bT (p::r)):∀q,q∈p::r→q.key.path=p.key.path∨bl p.key.path q.key.path=true:=by
 intro q hq
 rcases List.mem_cons.1 hq with rfl|hq
 ·exact .inl rfl
 ·have h3:=(List.pairwise_cons.1 hr).1 q hq
  unfold bI at h3
  simp only[Bool.or_eq_true,Bool.and_eq_true,beq_iff_eq] at h3
  rcases h3 with h3|⟨h3,_⟩
  ·exact .inr h3
  ·exact .inl h3.symm
structure aBz (A:List Pr) (dir:aD) (m:List Pr) (i:Nat):Prop where
 sub:m.Sublist A
 le:i≤(A.filter fun p=>eS dir p.key.path).length
 eq:(A.filter fun p=>eS dir p.key.path).drop i=m.filter fun p=>eS dir p.key.path
structure EG (l:List Pr) (p:aD) (w:Int) (x:Pr):Prop where
 mem:x∈l
 path:x.key.path=p
 le:x.key.time≤w
 top:∀y,y∈l→y.key.path=p→y.key.time≤w→y.key.time≤x.key.time
theorem gS (a b:Ky):bI a b=true↔bl a.path b.path=true∨(a.path=b.path∧b.time < a.time):=by
 unfold bI
 simp
theorem ZB {a:Ky} {p:aD} {w:Int} (h:bI a ⟨p,w⟩=false) (hp:a.path=p):a.time≤w:=by
 by_cases h2:a.time≤w
 ·exact h2
 ·have:=(gS a ⟨p,w⟩).2 (.inr ⟨hp,by show w < a.time;omega⟩)
  rw[h] at this
  cases this
theorem RF {a:Ky} {p:aD} {w:Int} (hp:a.path=p) (h:a.time≤w):bI a ⟨p,w⟩=false:=by
 cases hh:bI a ⟨p,w⟩
 ·rfl
 ·rcases (gS _ _).1 hh with h1|⟨_,h1⟩
  ·have h1:bl a.path p=true:=h1
   rw[hp,dW] at h1
   cases h1
  ·have h1:w < a.time:=h1
   omega
def P6 (l:List Pr):Prop:=∀y,y∈l→y.key.time≤1000000000
theorem oJ {l:List Pr} (hr:bT l) (ht:P6 l) (p:aD) (w:Int):(∃x,EG l p w x∧qL l p w=BE p x)∨((∀y,y∈l→y.key.path=p→¬y.key.time≤w)∧qL l p w=none):=by
 unfold qL
 have hf:=EI hr ⟨p,min w 1000000000⟩
 have hin:∀y,y∈l→y.key.path=p→y.key.time≤w→y∈dF l ⟨p,min w 1000000000⟩:=by
  intro y hy hp hw
  rw[hf,List.mem_filter]
  have:=ht y hy
  exact⟨hy,by rw[RF hp (by omega)];rfl⟩
 have hout:∀y,y∈dF l ⟨p,min w 1000000000⟩→y∈l∧bI y.key ⟨p,min w 1000000000⟩=false:=by
  intro y hy
  rw[hf,List.mem_filter] at hy
  exact⟨hy.1,by simpa using hy.2⟩
 have hrf:=NJ (k:=⟨p,min w 1000000000⟩) hr
 generalize dF l ⟨p,min w 1000000000⟩=L at hin hout hrf
 cases L with
 |nil=>exact .inr ⟨fun y hy hp hw=>absurd (hin y hy hp hw) (by simp),rfl⟩
 |cons x r=>
  have hx:=hout x (by simp)
  by_cases hp:x.key.path=p
  ·refine .inl ⟨x,⟨hx.1,hp,by have:=ZB hx.2 hp;omega,fun y hy hyp hyw=>?_⟩,rfl⟩
   rcases List.mem_cons.1 (hin y hy hyp hyw) with rfl|hy2
   ·exact Int.le_refl _
   ·have h3:=(List.pairwise_cons.1 hrf).1 y hy2
    rcases (gS _ _).1 h3 with h3|⟨_,h3⟩
    ·rw[hp,hyp,dW] at h3
     cases h3
    ·omega
  ·refine .inr ⟨fun y hy hyp hyw=>?_,?_⟩
   ·rcases List.mem_cons.1 (hin y hy hyp hyw) with rfl|hy2
    ·exact hp hyp
    ·have h3:=(List.pairwise_cons.1 hrf).1 y hy2
     rcases (gS _ _).1 h3 with h3|⟨h3,_⟩
     ·rw[hyp] at h3
      have:=(gS x.key ⟨p,min w 1000000000⟩).2 (.inl h3)
      rw[hx.2] at this
      cases this
     ·exact hp (h3.trans hyp)
   ·show BE p x=none
    unfold BE
    rw[if_neg (by simp[hp])]
theorem z8 {l:List Pr} (hr:bT l) {x y:Pr} (hx:x∈l) (hy:y∈l) (h:x.key=y.key):x=y:=by
 induction l with
 |nil=>cases hx
 |cons z r ih=>
  obtain⟨h1,h2⟩:=List.pairwise_cons.1 hr
  rcases List.mem_cons.1 hx with e1|hx2
  ·rcases List.mem_cons.1 hy with e2|hy2
   ·rw[e1,e2]
   ·have:=h1 y hy2
    rw[←e1,h,fI] at this
    cases this
  ·rcases List.mem_cons.1 hy with e2|hy2
   ·have:=h1 x hx2
    rw[←e2,h,fI] at this
    cases this
   ·exact ih h2 hx2 hy2
theorem a4h {l:List Pr} (hr:bT l) {p:aD} {w:Int} {x y:Pr} (hx:EG l p w x) (hy:EG l p w y):x=y:=by
 refine z8 hr hx.mem hy.mem ?_
 have h1:=hx.top y hy.mem hy.path hy.le
 have h2:=hy.top x hx.mem hx.path hx.le
 have h3:x.key.path=y.key.path:=hx.path.trans hy.path.symm
 have h4:x.key.time=y.key.time:=by omega
 cases hkx:x.key
 cases hky:y.key
 rw[hkx,hky] at h3 h4
 simp only at h3 h4
 rw[h3,h4]
theorem O9 {l:List Pr} (hr:bT l) (ht:P6 l) {p:aD} {w:Int} {x:Pr} (h:EG l p w x):qL l p w=BE p x:=by
 rcases oJ hr ht p w with ⟨y,hy,e⟩|⟨hno,_⟩
 ·rw[e,a4h hr h hy]
 ·exact absurd h.le (hno x h.mem h.path)
theorem F4 {l:List Pr} (hr:bT l) (ht:P6 l) {p:aD} {w:Int} (h:∀y,y∈l→y.key.path=p→¬y.key.time≤w):qL l p w=none:=by
 rcases oJ hr ht p w with ⟨y,hy,e⟩|⟨_,e⟩
 ·exact absurd hy.le (h y hy.mem hy.path)
 ·exact e
theorem UV {l m:List Pr} (hr:bT l) (ht:P6 l) (hr':bT m) (ht':P6 m) {p:aD} {w:Int} (h:∀y:Pr,y.key.path=p→y.key.time≤w→(y∈l↔y∈m)):qL l p w=qL m p w:=by
 rcases oJ hr ht p w with ⟨y,hy,e⟩|⟨hno,e⟩
 ·rw[e]
  refine (O9 hr' ht' ⟨(h y hy.path hy.le).1 hy.mem,hy.path,hy.le,fun z hz hzp hzw=>hy.top z ((h z hzp hzw).2 hz) hzp hzw⟩).symm
 ·rw[e]
  exact (F4 hr' ht' fun z hz hzp hzw=>hno z ((h z hzp hzw).2 hz) hzp hzw).symm
theorem Q0 {l:List Pr} {p:aD} {w:Int} {e:En} (hr:bT l) (ht:P6 l) (h:qL l p w=some e):e.path=p∧e.time≤w∧∃x,x∈l∧x.key.path=p∧e.time=x.key.time∧e.meta_=(bY x.val).1:=by
 rcases oJ hr ht p w with ⟨y,hy,e'⟩|⟨_,e'⟩
 ·rw[e'] at h
  unfold BE at h
  split at h
  ·cases h
   exact⟨rfl,hy.le,y,hy.mem,hy.path,rfl,rfl⟩
  ·cases h
 ·rw[e'] at h
  cases h
theorem BL {dir:aD}:∀{m:List Pr} {x:Pr},x∈m→eS dir x.key.path=true→x∈cK dir m
 |y::r,x,hx,hu=>by
  cases hy:eS dir y.key.path
  ·rw[qZ hy]
   rcases List.mem_cons.1 hx with rfl|hx
   ·rw[hu] at hy
    cases hy
   ·exact BL hx hu
  ·rw[oO hy]
   exact hx
theorem tV {x:Pr} {r:List Pr} (hr:bT (x::r)) (y:Pr):y∈dM x.key.path (x::r)↔y∈x::r∧y.key.path≠x.key.path:=by
 unfold dM
 rw[GP hr (yX hr),List.mem_filter]
 simp
theorem sL:∀(n:Nat) (dir:aD) (m:List Pr),m.length≤n→bT m→(fY dir m).Pairwise (fun a b=>bl a b=true)∧∀p,p∈fY dir m↔eS dir p=true∧∃x,x∈m∧x.key.path=p
 |n,dir,m,hn,hr=>by
  have hrs:bT (cK dir m):=hr.sublist (iY dir m)
  have hmem:∀p,(eS dir p=true∧∃x,x∈m∧x.key.path=p)↔(eS dir p=true∧∃x,x∈cK dir m∧x.key.path=p):=by
   intro p
   constructor
   ·rintro⟨hu,x,hx,rfl⟩
    exact⟨hu,x,BL hx hu,rfl⟩
   ·rintro⟨hu,x,hx,rfl⟩
    exact⟨hu,x,(iY dir m).subset hx,rfl⟩
  have hhead:=@LR dir m
  have hlen:=(iY dir m).length_le
  cases hs:cK dir m with
  |nil=>
   rw[r6 hs]
   refine⟨List.Pairwise.nil,fun p=>?_⟩
   rw[hmem,hs]
   simp
  |cons x r=>
   rw[hs] at hrs hlen
   have hux:=hhead hs
   have hlt:=nQ x r
   rw[n8 hs]
   match n,hn with
   |0,hn=>simp at hlen;omega
   |n+1,hn=>
    simp at hlen
    obtain⟨h1,h2⟩:=sL n dir (dM x.key.path (x::r)) (by omega) (hrs.sublist (List.dropWhile_sublist _))
    refine⟨List.pairwise_cons.2 ⟨fun p hp=>?_,h1⟩,fun p=>?_⟩
    ·obtain⟨_,y,hy,rfl⟩:=(h2 p).1 hp
     obtain⟨hy1,hy2⟩:=(tV hrs y).1 hy
     exact (yX hrs y hy1).resolve_left hy2
    ·rw[hmem,hs,List.mem_cons,h2]
     constructor
     ·rintro (rfl|⟨hu,y,hy,rfl⟩)
      ·exact⟨hux,x,by simp,rfl⟩
      ·exact⟨hu,y,((tV hrs y).1 hy).1,rfl⟩
     ·rintro⟨hu,y,hy,rfl⟩
      by_cases he:y.key.path=x.key.path
      ·exact .inl he
      ·exact .inr ⟨hu,y,(tV hrs y).2 ⟨hy,he⟩,rfl⟩
theorem xH {l:List Pr} (hr:bT l) (ht:P6 l) (dir:aD) (w:Int) (e:En):e∈mT l dir w↔eS dir e.path=true∧qL l e.path w=some e:=by
 unfold mT
 rw[List.mem_filterMap]
 constructor
 ·rintro⟨p,hp,he⟩
  have:=(Q0 hr ht he).1
  subst this
  exact⟨(((sL _ dir l (Nat.le_refl _) hr).2 _).1 hp).1,he⟩
 ·rintro⟨hu,he⟩
  obtain⟨_,_,x,hx,hxp,_⟩:=Q0 hr ht he
  exact⟨e.path,((sL _ dir l (Nat.le_refl _) hr).2 _).2 ⟨hu,x,hx,hxp⟩,he⟩
abbrev PI (l:List En):Prop:=l.Pairwise fun a b=>bl a.path b.path=true
theorem G2 {f:aD→Option En} (hf:∀p e,f p=some e→e.path=p):∀{l:List aD},l.Pairwise (fun a b=>bl a b=true)→PI (l.filterMap f)
 |[],_=>List.Pairwise.nil
 |p::r,h=>by
  obtain⟨h1,h2⟩:=List.pairwise_cons.1 h
  rw[List.filterMap_cons]
  cases he:f p with
  |none=>exact G2 hf h2
  |some e=>
   refine List.pairwise_cons.2 ⟨fun y hy=>?_,G2 hf h2⟩
   obtain⟨q,hq,hy⟩:=List.mem_filterMap.1 hy
   rw[hf p e he,hf q y hy]
   exact h1 q hq
theorem BW {l:List Pr} (hr:bT l) (ht:P6 l) (dir:aD) (w:Int):PI (mT l dir w):=
 G2 (fun p e he=>(Q0 hr ht he).1) (sL _ dir l (Nat.le_refl _) hr).1
theorem HQ:∀{a b:List En},PI a→PI b→(∀e,e∈a↔e∈b)→a=b
 |[],[],_,_,_=>rfl
 |[],y::s,_,_,h=>by have:=(h y).2 (by simp);cases this
 |x::r,[],_,_,h=>by have:=(h x).1 (by simp);cases this
 |x::r,y::s,ha,hb,h=>by
  obtain⟨h1,h2⟩:=List.pairwise_cons.1 ha
  obtain⟨h3,h4⟩:=List.pairwise_cons.1 hb
  have e:x=y:=by
   rcases List.mem_cons.1 ((h x).1 (by simp)) with e|hx
   ·exact e
   ·rcases List.mem_cons.1 ((h y).2 (by simp)) with e|hy
    ·exact e.symm
    ·have:=y3 (h3 x hx)
     rw[h1 y hy] at this
     cases this
  subst e
  congr 1
  refine HQ h2 h4 fun z=>?_
  constructor
  ·intro hz
   rcases List.mem_cons.1 ((h z).1 (by simp[hz])) with rfl|hz2
   ·have:=h1 z hz
    rw[dW] at this
    cases this
   ·exact hz2
  ·intro hz
   rcases List.mem_cons.1 ((h z).2 (by simp[hz])) with rfl|hz2
   ·have:=h3 z hz
    rw[dW] at this
    cases this
   ·exact hz2
theorem NP {l m:List Pr} (hr:bT l) (ht:P6 l) (hr':bT m) (ht':P6 m) {w:Int} (h:∀p,qL l p w=qL m p w) (dir:aD):mT l dir w=mT m dir w:=
 HQ (BW hr ht dir w) (BW hr' ht' dir w) fun e=>by rw[xH hr ht,xH hr' ht',h]
theorem RN (l:List Pr) (p:Pr):p∈cQ l p:=by
 induction l with
 |nil=>simp[cQ]
 |cons q r ih=>
  simp only[cQ]
  split
  ·simp[ih]
  ·split<;>simp
theorem QW {l:List Pr} {p y:Pr} (hy:y∈l) (h:y.key≠p.key):y∈cQ l p:=by
 induction l with
 |nil=>cases hy
 |cons q r ih=>
  simp only[cQ]
  rcases List.mem_cons.1 hy with rfl|hy
  ·split
   ·simp
   ·first
     |(rw[if_neg h];simp)
     |simp
  ·split
   ·simp[ih hy]
   ·split<;>simp[hy]
theorem UT {l:List Pr} {p:Pr} (h:∀y,y∈l→y.key≠p.key):(cQ l p).length=l.length+1:=by
 induction l with
 |nil=>rfl
 |cons q r ih=>
  simp only[cQ]
  split
  ·simp[ih (fun y hy=>h y (by simp[hy]))]
  ·rw[if_neg (h q (by simp))]
   rfl
noncomputable def oG (l:List Pr) (at_:Int) (c:List Ch):List Pr:=c.foldl (fun l x=>cQ l (AW at_ x)) l
theorem PJ {at_:Int}:∀{c:List Ch} {l:List Pr},A7 c→(∀y,y∈l→∀x,x∈c→y.key≠(AW at_ x).key)→(∀y,y∈oG l at_ c↔y∈l∨∃x,x∈c∧y=AW at_ x)∧(oG l at_ c).length=l.length+c.length
 |[],l,_,_=>⟨fun y=>by simp[oG],rfl⟩
 |x::r,l,hc,hl=>by
  obtain⟨h1,h2⟩:=List.pairwise_cons.1 hc
  have hnew:∀y,y∈l→y.key≠(AW at_ x).key:=fun y hy=>hl y hy x (by simp)
  have hne:∀z,z∈r→(AW at_ x).key≠(AW at_ z).key:=by
   intro z hz he
   have h3:=h1 z hz
   have:x.path=z.path:=congrArg Ky.path he
   rw[this,dW] at h3
   cases h3
  obtain⟨h3,h4⟩:=PJ (at_:=at_) (c:=r) (l:=cQ l (AW at_ x)) h2 (fun y hy z hz=>by
   rcases zL hy with rfl|hy
   ·exact hne z hz
   ·exact hl y hy z (by simp[hz]))
  refine⟨fun y=>?_,?_⟩
  ·show y∈oG (cQ l (AW at_ x)) at_ r↔_
   rw[h3]
   constructor
   ·rintro (hy|⟨z,hz,e⟩)
    ·rcases zL hy with e|hy
     ·exact .inr ⟨x,by simp,e⟩
     ·exact .inl hy
    ·exact .inr ⟨z,by simp[hz],e⟩
   ·rintro (hy|⟨z,hz,e⟩)
    ·exact .inl (QW hy (hnew y hy))
    ·rcases List.mem_cons.1 hz with rfl|hz
     ·exact .inl (by rw[e];exact RN _ _)
     ·exact .inr ⟨z,hz,e⟩
  ·show (oG (cQ l (AW at_ x)) at_ r).length=_
   rw[h4,UT hnew,List.length_cons]
   omega
theorem mL (l:List Pr):∀n:Int,n≤l.foldl (fun n p=>max n p.key.time) n∧(∀y,y∈l→y.key.time≤l.foldl (fun n p=>max n p.key.time) n)∧(l.foldl (fun n p=>max n p.key.time) n=n∨∃y,y∈l∧l.foldl (fun n p=>max n p.key.time) n=y.key.time):=by
 induction l with
 |nil=>intro n;exact⟨Int.le_refl _,fun y hy=>(by cases hy),.inl rfl⟩
 |cons x r ih=>
  intro n
  obtain⟨h1,h2,h3⟩:=ih (max n x.key.time)
  simp only[List.foldl_cons]
  refine⟨by omega,fun y hy=>?_,?_⟩
  ·rcases List.mem_cons.1 hy with rfl|hy
   ·omega
   ·exact h2 y hy
  ·rcases h3 with h3|⟨y,hy,h3⟩
   ·by_cases hx:n≤x.key.time
    ·exact .inr ⟨x,by simp,by omega⟩
    ·exact .inl (by omega)
   ·exact .inr ⟨y,by simp[hy],h3⟩
theorem XB {l:List Pr} {n:Int} (h0:0≤n) (h1:∀y,y∈l→y.key.time≤n) (h2:∃y,y∈l∧y.key.time=n):mO l=n:=by
 obtain⟨a,b,c⟩:=mL l 0
 obtain⟨y,hy,e⟩:=h2
 have h3:=b y hy
 unfold mO
 rcases c with c|⟨z,hz,c⟩
 ·omega
 ·have:=h1 z hz
  omega
theorem RU {p:Pr} (h:B2 p=true):(bY p.val).2.2=0∧bN p.key.path=true∧0≤p.key.time∧p.key.time≤1000000000∧p.key.path≠[]:=by
 unfold B2 kJ at h
 simp at h
 exact⟨h.1.1,h.1.2.1.1,h.1.2.1.2,h.1.2.2,h.2⟩
theorem yO {l:List Pr} (h:dZ l=true) {p:Pr} (hp:p∈l):B2 p=true:=by
 unfold dZ at h
 rw[List.all_eq_true] at h
 exact h p hp
theorem OM {l:List Pr} (h:∀p,p∈l→B2 p=true):dZ l=true:=by
 unfold dZ
 rw[List.all_eq_true]
 exact h
theorem lX {l:List Pr} (h:dZ l=true):P6 l:=fun y hy=>(RU (yO h hy)).2.2.2.1
theorem BN {c:Ch} (h:iM c=true):c.path≠[]∧bN c.path=true∧pT c.meta_=true∧(c.gone=true→c.meta_=cC):=by
 unfold iM wA at h
 simp at h
 refine⟨h.1.1.1,h.1.1.2,h.1.2,fun hg=>?_⟩
 rcases h.2 with h2|h2
 ·rw[hg] at h2
  cases h2
 ·obtain⟨⟨a,b⟩,c'⟩:=h2
  cases hm:c.meta_ with
  |mk s m l=>
   rw[hm] at a b c'
   simp only at a b c'
   rw[a,b,c']
   rfl
structure Lays (l:List Pr) (at_:Int) (c:List Ch):Prop where
 st:dZ l=true
 pos:1≤at_
 le:at_≤1000000000
 ne:c≠[]
 may:∀x,x∈c→iM x=true
 rise:A7 c
 new:∀y,y∈l→y.key.time < at_
 last:eX l < at_
theorem A0 {l:List Pr} {at_:Int} {c:List Ch} (h:FL l at_ c=true):Lays l at_ c:=by
 unfold FL d8 at h
 simp only[Bool.and_eq_true,decide_eq_true_eq,List.all_eq_true] at h
 obtain⟨⟨⟨⟨h1,h2⟩,h3⟩,⟨⟨⟨h4,h5⟩,h6⟩,h7⟩⟩,h8⟩:=h
 refine⟨h1,h2,h3,?_,h6,h7,fun y hy=>?_,h8⟩
 ·intro e
  rw[e] at h4
  simp at h4
 ·unfold eX at h8
  rw[if_pos h1] at h8
  have:=(mL l 0).2.1 y hy
  unfold mO at h8
  omega
theorem lK {l:List Pr} {at_:Int} {c:List Ch} (h:Lays l at_ c):(∀y,y∈oG l at_ c↔y∈l∨∃x,x∈c∧y=AW at_ x)∧(oG l at_ c).length=l.length+c.length:=
 PJ h.rise fun y hy x hx e=>by
  have:=h.new y hy
  have e2:y.key.time=at_:=congrArg Ky.time e
  omega
theorem a80 {l:List Pr} {at_:Int} {c:List Ch} (h:Lays l at_ c) {x:Ch} (hx:x∈c):B2 (AW at_ x)=true:=by
 obtain⟨h1,h2,h3,_⟩:=BN (h.may x hx)
 unfold B2 kJ AW
 simp only[(GC (g:=x.gone) h3).2,h2]
 have:=h.pos
 have:=h.le
 simp
 exact⟨⟨by omega,by omega⟩,h1⟩
theorem FJ {l:List Pr} {at_:Int} {c:List Ch} (h:Lays l at_ c):dZ (oG l at_ c)=true:=by
 refine OM fun p hp=>?_
 rcases ((lK h).1 p).1 hp with hp|⟨x,hx,rfl⟩
 ·exact yO h.st hp
 ·exact a80 h hx
theorem RJ {l:List Pr} {at_:Int} {c:List Ch} (h:Lays l at_ c):eX (oG l at_ c)=at_:=by
 unfold eX
 rw[if_pos (FJ h)]
 obtain⟨x,r,e⟩:=List.exists_cons_of_ne_nil h.ne
 refine XB (by have:=h.pos;omega) (fun y hy=>?_) ⟨AW at_ x,((lK h).1 _).2 (.inr ⟨x,by rw[e];simp,rfl⟩),rfl⟩
 rcases ((lK h).1 y).1 hy with hy|⟨z,hz,rfl⟩
 ·have:=h.new y hy
  omega
 ·exact Int.le_refl _
theorem VG {l:List Pr} {at_:Int} {c:List Ch} (h:Lays l at_ c) (hr:bT l) (hr':bT (oG l at_ c)) {p:aD} {w:Int} (hp:w < at_∨∀x,x∈c→x.path≠p):qL (oG l at_ c) p w=qL l p w:=by
 refine UV hr' (lX (FJ h)) hr (lX h.st) fun y hyp hyw=>?_
 rw[(lK h).1]
 constructor
 ·rintro (hy|⟨x,hx,rfl⟩)
  ·exact hy
  ·exfalso
   rcases hp with hp|hp
   ·have:at_≤w:=hyw
    omega
   ·exact hp x hx hyp
 ·exact .inl
theorem JR {t:Tr} {at_:Int} {c:List Ch} (h:t.all.length+c.length < 10000000):(mY t at_ c).all=oG t.all at_ c:=(yY c t h).2
def xU (l:List Ld):Int:=l.foldl (fun _ x=>x.at_) 0
def aB7 (x:Ld) (p:aD) (w:Int):Option (Ch×Int):=if x.at_≤w then (x.batch.find? fun c=>c.path==p).map fun c=>(c,x.at_) else none
def a9s (l:List Ld) (p:aD) (w:Int):Option (Ch×Int):=l.foldl (fun r x=>(aB7 x p w).or r) none
def aB0 (p:aD) (r:Option (Ch×Int)):Option En:=r.bind fun y=>if y.1.gone=true then none else some ⟨p,y.2,y.1.meta_⟩
structure aAr (t:Tr) (took:List Ld):Prop where
 st:dZ t.all=true
 last:eX t.all=xU took
 rises:∀(i:Nat) x,took[i]? =some x→xU (took.take i) < x.at_
 told:∀p w,qL t.all p w=aB0 p (a9s took p w)
theorem YD {l:List Pr} (h:dZ l=true) (p:aD) (w:Int):mM l p w=if bN p=false then 20 else if w < 0 then 1 else 0:=by
 unfold mM
 rw[if_neg (by simp[h])]
end Go.Proofs.YteliblifgdofgaaGreatDoor
