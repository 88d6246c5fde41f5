/- Parts of the proof, one behind the other. No further condition. -/
import Derived.Test.YthnhbmlefiafaaaGreatDoorK18
set_option linter.unusedVariables false
set_option linter.unusedSimpArgs false
set_option maxRecDepth 100000
set_option maxHeartbeats 8000000
namespace Go.Proofs.YthnhbmlefiafaaaGreatDoor
open Go.Ab
def jZ (d s:aG):Bool:=cS d&&cS s&&(d==[]||d==s||jS s (d++[47]))
theorem U0 (d s:aG) (hd:d.length < 1000000) (hs:s.length < 1000000):aN Tryz.prog 213 [.str d,.str s] (.bool (jZ d s)):=by
 intro M
 refine aC aF Tryz.func213 rfl (by decide) (by simp[Tryz.f213]) ?_
 have k1:=mG d (by omega)
 have k2:=mG s (by omega)
 have k3:=EW s (d++[47])
 unfold jZ
 cases h1:cS d
 ·rw[h1] at k1
  repeat' (first|refine zA rfl ?_|refine aA ?_|refine aJ rfl ?_|refine aD rfl k1 ?_)
  exact⟨rfl,_,rfl,rfl,rfl⟩
 ·rw[h1] at k1
  cases h2:cS s
  ·rw[h2] at k2
   repeat' (first|refine zA rfl ?_|refine aA ?_|refine aJ rfl ?_|refine aD rfl k1 ?_|refine aD rfl k2 ?_)
   exact⟨rfl,_,rfl,rfl,rfl⟩
  ·rw[h2] at k2
   cases h3:d==[]
   ·cases h4:d==s
    ·repeat' (first|refine zB rfl (by first|exact h3|exact h4) ?_|refine zA rfl ?_|refine aA ?_|refine aJ rfl ?_|refine aD rfl k1 ?_|refine aD rfl k2 ?_)
     refine D8 rfl rfl rfl rfl rfl rfl (by simp;omega) ?_
     repeat' (first|refine zA rfl ?_|refine aA ?_|refine aJ rfl ?_|refine aD rfl k3 ?_)
     exact⟨rfl,_,rfl,A9 (by simp),rfl⟩
    ·repeat' (first|refine zB rfl (by first|exact h3|exact h4) ?_|refine zA rfl ?_|refine aA ?_|refine aJ rfl ?_|refine aD rfl k1 ?_|refine aD rfl k2 ?_)
     exact⟨rfl,_,rfl,rfl,rfl⟩
   ·repeat' (first|refine zB rfl h3 ?_|refine zA rfl ?_|refine aA ?_|refine aJ rfl ?_|refine aD rfl k1 ?_|refine aD rfl k2 ?_)
    exact⟨rfl,_,rfl,rfl,rfl⟩
def fnU (dir:aG):AV:=.fn (.func 212) [] [.ref [.str dir]]
theorem rR (dir:aG):aP (fnU dir):=QX (by simp) (aY (j7 (aY aR)))
def tY (t:Tr) (dir:aG) (l:List Pr):List AV:=[t.av,fnU dir,.sl 3 (l.map Pr.av) .none]
theorem iC (t:Tr) (dir:aG) (l:List Pr):∀x,x∈tY t dir l→aP x:=cD (bL t) (rR dir) (bO l)
def wU (t:Tr) (dir:aG) (l:List Pr):aI:=⟨1,[(0,.cells (tY t dir l))]⟩
def XC (t:Tr) (dir:aG) (l:List Pr) (e:dG) (N:aI) (r:dG):Prop:=e=r∧N=wU t dir l
theorem a0a (dir:aG):aN Tryz.prog 192 [.str dir] (fnU dir):=by
 refine aT (aY aR) (rR dir) ?_
 refine aC aF Tryz.func192 rfl (by decide) (by simp[Tryz.f192]) ?_
 repeat' (first|refine zA rfl ?_|refine aA ?_|refine aJ rfl ?_)
 exact⟨rfl,_,rfl,_,rfl,aH.of_closed (rR dir)⟩
theorem S8 (p:Pr) (dir:aG) (hp:p.key.path.length < 1000000) (hd:dir.length < 1000000):aN Tryz.prog 212 [p.av,.ref [.str dir]] (.bool (jZ dir p.key.path)):=by
 intro M
 refine aC aF Tryz.func212 rfl (by decide) (by simp[Tryz.f212]) ?_
 have k:=U0 dir p.key.path hd hp
 repeat' (first|refine zA rfl ?_|refine aA ?_|refine aJ rfl ?_|refine aD rfl k ?_)
 exact⟨rfl,_,rfl,rfl,rfl⟩
theorem PH (t:Tr) (hs:t.all.length < 10000000) (dir:aG) (hd:dir.length < 1000000) (hp:cS dir=true):aS Tryz.prog 162 [t.av,.str dir] ⟨0,[]⟩ (fun e N=>XC t dir t.all e N (.ret (.tup [.ptr 0 0,.int .i64 0]))):=by
 refine aC aF Tryz.func162 rfl (by decide) (by simp[Tryz.f162]) ?_
 have k1:=mG dir (by omega)
 rw[hp] at k1
 have k2:=a0a dir
 have k3:=tQ t hs
 unfold Tr.av at k3 ⊢
 repeat' (first|refine dV 15 aF rfl ?_|refine zA rfl ?_|refine aA ?_|refine aJ rfl ?_|refine aD rfl k1 ?_|refine aD rfl k2 ?_|refine aD rfl k3 ?_)
 exact⟨rfl,_,rfl,rfl,rfl⟩
def gQ (dir:aG) (l:List Pr):List Pr:=l.dropWhile fun p=>!jZ dir p.key.path
def uO (l:List Pr):Prop:=∀p,p∈l→p.key.path.length < 1000000
theorem LL {dir:aG} {p:Pr} {l:List Pr} (h:jZ dir p.key.path=false):gQ dir (p::l)=gQ dir l:=by
 unfold gQ
 rw[List.dropWhile_cons,if_pos (by rw[h];rfl)]
theorem DB {dir:aG} {p:Pr} {l:List Pr} (h:jZ dir p.key.path=true):gQ dir (p::l)=p::l:=by
 unfold gQ
 rw[List.dropWhile_cons,if_neg (by rw[h];simp)]
theorem a97 (t:Tr) (dir:aG) (hd:dir.length < 1000000) (l:List Pr) (hl:uO l):aS Tryz.prog 194 [.ptr 0 0] (wU t dir l) (fun e N=>XC t dir (gQ dir l) e N (.ret (.bool (decide (0 < ((gQ dir l).length:Int)))))):=by
 refine aC aF Tryz.func194 rfl (by decide) (by simp[Tryz.f194]) ?_
 unfold wU tY Tr.av fnU
 repeat' (first|refine zA rfl ?_|refine aA ?_|refine aJ rfl ?_)
 refine lV (fun k f N=>∃m:List Pr,m.length=k∧gQ dir m=gQ dir l∧uO m∧N=⟨1,[(0,.cells [t.av,.fn (.func 212) [] [.ref [.str dir]],.sl 3 (m.map Pr.av) .none])]⟩∧f=⟨[(0,.ptr 0 0)],[]⟩) (k:=l.length) ⟨l,rfl,rfl,hl,rfl,rfl⟩ (aM.le ?_ (aI.le_refl _)) ?_
 ·skip
  repeat (refine AF.le_cons rfl ?_)
  exact AF.le_nil rfl
 rintro k f N ⟨m,rfl,hm,hsm,rfl,rfl⟩
 unfold Tr.av
 cases m with
 |nil=>
  have e:gQ dir l=[]:=hm.symm
  rw[e]
  repeat' (first|refine zA rfl ?_|refine aA ?_|refine aJ rfl ?_|refine xS aF rfl ?_)
  exact⟨rfl,_,rfl,rfl,rfl⟩
 |cons p r=>
  have la:(((p::r).map Pr.av).length:Int)=((r.length+1:Nat):Int):=by simp
  have d1:decide ((0:Int) < ((r.length+1:Nat):Int))=true:=decide_eq_true (by omega)
  have ku:=S8 p dir (hsm p (by simp)) hd
  cases hu:jZ dir p.key.path
  ·rw[hu] at ku
   repeat' (first|refine zB rfl d1 ?_|refine zI rfl la ?_|refine zA rfl ?_|refine aA ?_|refine aJ rfl ?_|refine aD rfl ku ?_|refine zX rfl (⟨Int.le_refl 0,rfl⟩) ?_|refine xS aF rfl ?_|refine aO mixed [0,4,1,2,3,5,6,7,8,9,10] [.P,.R,.R,.R,.P,.R,.R,.R,.R,.R,.P] rfl rfl (by kernel_rfl) ?_)
   refine gM aF rfl rfl rfl rfl (lo:=1) (l:=p::r) rfl rfl rfl rfl rfl rfl (by simp) ?_
   repeat' (first|refine zA rfl ?_|refine aA ?_)
   exact⟨r.length,_,_,by simp,⟨r,rfl,(LL hu).symm.trans hm,fun q hq=>hsm q (by simp[hq]),rfl,rfl⟩,aM.le (AF.le_cons rfl (AF.le_nil rfl)) (aI.le_cons rfl (aI.le_nil rfl))⟩
  ·rw[hu] at ku
   have e:gQ dir l=p::r:=hm.symm.trans (DB hu)
   rw[e,show decide (0 < (((p::r).length:Nat):Int))=true from decide_eq_true (by simp)]
   repeat' (first|refine zB rfl d1 ?_|refine zI rfl la ?_|refine zA rfl ?_|refine aA ?_|refine aJ rfl ?_|refine aD rfl ku ?_|refine zX rfl (⟨Int.le_refl 0,rfl⟩) ?_|refine xS aF rfl ?_|refine aO mixed [0,4,1,2,3,5,6,7,8,9,10] [.P,.R,.R,.R,.P,.R,.R,.R,.R,.R,.P] rfl rfl (by kernel_rfl) ?_)
   exact⟨rfl,_,rfl,rfl,rfl⟩
theorem uZ {t:Tr} {dir:aG} {l l':List Pr} {g:FuncId} {args args1:List AV} {r:AV} {M:aI} {R:dG→aI→Prop} (id:Nat) (hM:M.get id=some (.cells (tY t dir l))) (hlt:id < M.next)
  (h:aS Tryz.prog g args1 (wU t dir l) fun e N=>XC t dir l' e N (.ret r)) (hr:aP r) (hargs:C6 [id] args args1) (hR:R (.ret r) (M.set id (.cells (tY t dir l')))):aS Tryz.prog g args M R:=by
 refine aS.frame1 (R1:=fun e d=>e=.ret r∧d=tY t dir l') id hM hlt (iC t dir l) (h.mono ?_) hargs ?_
 ·rintro e N ⟨h1,rfl⟩
  exact⟨rfl,_,rfl,h1,rfl⟩
 ·rintro e d ⟨h1,rfl⟩
  subst h1
  exact⟨hr,iC t dir l',hR⟩
theorem a17 {t:Tr} {dir:aG} {l l':List Pr} {g:FuncId} {args:List AV} {r:AV} (hr:aP r) (h:aS Tryz.prog g args (wU t dir l) fun e N=>e=.ret r∧1≤N.next∧N.get 0=some (.cells (tY t dir l'))):
  aS Tryz.prog g args (wU t dir l) fun e N=>XC t dir l' e N (.ret r):=by
 refine (aS.cutL (r:=r) (l:=[(0,.cells (tY t dir l'))]) (h.mono ?_)).mono ?_
 ·rintro e N ⟨h1,h2,h3⟩
  exact⟨r,h1,aH.of_closed hr,h2,dL (Nat.zero_lt_one) h3 (iC t dir l') trivial⟩
 ·rintro e N ⟨rfl,rfl⟩
  exact⟨rfl,rfl⟩
def a65:Pr:=⟨⟨[],0⟩,[]⟩
def pb (x:Pr×Bool):AV:=.tup [x.1.av,.bool x.2]
theorem vH (x:Pr×Bool):aP (pb x):=aW (aZ (i7 _) aL)
def AB (l:List Pr):(Pr×Bool)×List Pr:=match l with
 |[]=>((a65,false),[])
 |p::r=>((p,true),r)
theorem YE (t:Tr) (dir:aG) (hd:dir.length < 1000000) (l:List Pr) (hl:uO l):aS Tryz.prog 165 [.ptr 0 0] (wU t dir l) (fun e N=>e=.ret (pb (AB (gQ dir l)).1)∧1≤N.next∧N.get 0=some (.cells (tY t dir (AB (gQ dir l)).2))):=by
 refine aC aF Tryz.func165 rfl (by decide) (by simp[Tryz.f165]) ?_
 have ko:=a97 t dir hd l hl
 repeat' (first|refine zA rfl ?_|refine aA ?_|refine aJ rfl ?_)
 refine cU rfl rfl (uZ (R:=fun e N=>e=.ret (.bool (decide (0 < ((gQ dir l).length:Int))))∧N=⟨2,[(0,.cells (tY t dir (gQ dir l))),(1,.cells [.str [],.int .i64 0,.str []]),(0,.cells (tY t dir l))]⟩) 0 rfl (Nat.zero_lt_succ _) ko aL ⟨lZ.ptr rfl,trivial⟩ ⟨rfl,rfl⟩) ?_ (fun u M' h=>by cases h.1)
 rintro u N ⟨e,rfl⟩
 cases e
 unfold tY Tr.av
 cases hs:gQ dir l with
 |nil=>
  repeat' (first|refine zA rfl ?_|refine aA ?_|refine aJ rfl ?_)
  exact⟨rfl,_,rfl,rfl,Nat.le_add_left 1 _,rfl⟩
 |cons p r=>
  rw[show decide (0 < (((p::r).length:Nat):Int))=true from decide_eq_true (by simp)]
  repeat' (first|refine zA rfl ?_|refine aA ?_|refine aJ rfl ?_|refine zX rfl (⟨Int.le_refl 0,rfl⟩) ?_)
  refine gM aF rfl rfl rfl rfl (lo:=1) (l:=p::r) rfl rfl rfl rfl rfl rfl (by simp) ?_
  repeat' (first|refine zA rfl ?_|refine aA ?_|refine aJ rfl ?_)
  exact⟨rfl,_,rfl,rfl,Nat.le_add_left 1 _,rfl⟩
theorem a0w (t:Tr) (dir:aG) (hd:dir.length < 1000000) (l:List Pr) (hl:uO l):aS Tryz.prog 165 [.ptr 0 0] (wU t dir l) fun e N=>XC t dir (AB (gQ dir l)).2 e N (.ret (pb (AB (gQ dir l)).1)):=
 a17 (vH _) (YE t dir hd l hl)
def sb (x:aG×Bool):AV:=.tup [.str x.1,.bool x.2]
theorem BL (p:Pr):∀c,c∈p.av.cells→aP c:=by
 intro c hc
 have:c∈[AV.str p.key.path,.int .i64 p.key.time,.str p.val]:=hc
 exact cD aR aB aR c this
def CI (dir:aG) (l:List Pr):Pr:=(AB (gQ dir l)).1.1
def D6 (dir:aG) (l:List Pr):Bool:=(AB (gQ dir l)).1.2
def HQ (dir:aG) (l:List Pr):List Pr:=(AB (gQ dir l)).2
def VI (l:List Pr):List AV:=l.map fun p=>(T9 p).av
def vrA (l:List Pr) (t:eI):AV:=.sl 6 (VI l) t
theorem DI (l:List Pr):∀x,x∈VI l→∀c,c∈x.cells→aP c:=by
 intro x hx
 obtain⟨p,_,rfl⟩:=List.mem_map.1 hx
 exact AL _
theorem rL (l:List Pr):aP (vrA l .none):=c8 (.inl rfl) (fun x hx=>by obtain⟨p,_,rfl⟩:=List.mem_map.1 hx;exact uQ _) (DI l)
def dD (l:List Pr):Prop:=∀p,p∈l→p.key.path.length < 1000000∧p.val.length < 1000000
theorem dD.short {l:List Pr} (h:dD l):uO l:=fun p hp=>(h p hp).1
theorem W3 {p:Pr} (h:FB p=true):cS p.key.path=true:=by
 unfold FB mW at h
 simp at h
 exact h.1.2.1.1
theorem SS {s:aG} (h:cS s=true):jZ [] s=true:=by
 unfold jZ
 rw[h]
 rfl
theorem AY:cS []=true:=rfl
theorem SO {l:List Pr} {i:Nat} {x:Pr} (hx:l[i]? =some x) (hi:eY (l.take i)=true) (h:FB x=true):eY (l.take (i+1))=true:=zC hx hi h
def a2c (t:Tr) (m:List Pr) (g:Nat):aI:=⟨3,[(0,.cells (tY t [] m)),(2,.spare g)]⟩
def YI (out:List Pr) (g:Nat) (p:Pr) (ok:Bool):AF:=⟨[(8,.fn (.func 165) [.ptr 0 0] []),(7,vrA out (.tok 2 g)),(9,.ref p.av.cells),(10,.bool ok)],[]⟩
def wB (t:Tr) (A:List Pr) (i:Nat):AF:=⟨[(3,.ptr 0 0),(19,.sl 3 (A.map Pr.av) .none),(20,.int .i64 (A.length:Int)),(21,.int .i64 (i:Int))],[]⟩
theorem QV (t:Tr) (hs:t.all.length < 10000000) (hv:dD t.all) (h:eY t.all=false):TN Tryz.prog 117 [t.av] (.pan (nJ 1)):=by
 refine xV (aY (bL t)) (eJ 1) ?_
 refine aC aF Tryz.func117 rfl (by decide) (by simp[Tryz.f117]) ?_
 have kn:=PH t hs [] (by decide) AY
 have ka:=tQ t hs
 have k0:=JG
 have lA:=aU Pr.av t.all
 unfold Tr.av at kn ka ⊢
 repeat' (first|refine zA rfl ?_|refine aA ?_|refine aJ rfl ?_)
 refine cU rfl rfl kn ?_ (fun u M' h=>by cases h.1)
 rintro u N ⟨e,rfl⟩
 cases e
 repeat' (first|refine zI rfl lA ?_|refine zA rfl ?_|refine aA ?_|refine aJ rfl ?_|refine aD rfl k0 ?_|refine aD rfl ka ?_)
 generalize t.all=A at*
 refine aX A.length (fun i f N=>N=wU t [] A∧eY (A.take i)=true∧f=wB t A i) (Nat.zero_le _) ⟨rfl,rfl,rfl⟩ (aM.le ?_ (aI.le_cons rfl (aI.le_nil rfl))) ?_
 ·unfold wB
  repeat (refine AF.le_cons rfl ?_)
  exact AF.le_nil rfl
 rintro i f N hi ⟨rfl,hinv,rfl⟩
 unfold wB
 by_cases h1:i < A.length
 ·have d1:decide ((i:Int) < (A.length:Int))=true:=by simp;omega
  have hx:A[i]? =some A[i]:=List.getElem?_eq_getElem h1
  have fi:=aQ (i:=i) (by omega)
  have hb:=hv _ (List.getElem_mem h1)
  generalize A[i]=x at hx hb
  cases ho:FB x
  ·have kr:=a1j x hb.1 hb.2 ho
   repeat' (first|refine zB rfl d1 ?_|refine zA rfl ?_|refine aA ?_|refine aJ rfl ?_|refine BP rfl rfl (kr) ?_|refine zX rfl (c7 hx) ?_)
   exact⟨rfl,aH.of_closed (eJ 1)⟩
  ·have kr:=y8 x hb.1 hb.2 ho
   repeat' (first|refine zB rfl d1 ?_|refine zI rfl fi ?_|refine zA rfl ?_|refine aA ?_|refine aJ rfl ?_|refine aD rfl kr ?_|refine zX rfl (c7 hx) ?_)
   refine⟨h1,_,_,⟨rfl,SO hx hinv ho,rfl⟩,aM.cut (k:=1) (t:=(wB t A (i+1)).t) (l:=(wU t [] A).objs) (by show 1≤1;omega) (by show 1≤2;omega) rfl ⟨?_,?_,?_,?_,trivial⟩ (dL (by decide) rfl (iC t [] A) trivial)⟩
   ·exact aH.ptr rfl
   ·exact aH.of_closed (bO _)
   ·exact aH.of_closed aB
   ·exact aH.of_closed aB
 ·exfalso
  obtain rfl:i=A.length:=by omega
  rw[List.take_length] at hinv
  rw[h] at hinv
  cases hinv
theorem a2f {a:List Pr} {p:Pr} {t:eI}:AV.sl 6 (VI a++[(T9 p).av]) t=vrA (a++[p]) t:=by simp[vrA,VI]
theorem GL (t:Tr) (hs:t.all.length < 10000000) (hv:dD t.all) (h:eY t.all=true):aN Tryz.prog 117 [t.av] (vrA t.all .none):=by
 refine aT (aY (bL t)) (rL _) ?_
 refine aC aF Tryz.func117 rfl (by decide) (by simp[Tryz.f117]) ?_
 have kn:=PH t hs [] (by decide) AY
 have kx:=fun (l:List Pr) (h:uO l)=>a0w t [] (by decide) l h
 have ka:=tQ t hs
 have k0:=JG
 have lA:=aU Pr.av t.all
 unfold Tr.av at kn ka ⊢
 repeat' (first|refine zA rfl ?_|refine aA ?_|refine aJ rfl ?_)
 refine cU rfl rfl kn ?_ (fun u M' h=>by cases h.1)
 rintro u N ⟨e,rfl⟩
 cases e
 repeat' (first|refine zI rfl lA ?_|refine zA rfl ?_|refine aA ?_|refine aJ rfl ?_|refine aD rfl k0 ?_|refine aD rfl ka ?_)
 have hok:∀p,p∈t.all→FB p=true:=fun p hp=>by
  unfold eY at h
  rw[List.all_eq_true] at h
  exact h p hp
 generalize t.all=A at*
 refine aX A.length (fun i f N=>N=wU t [] A∧f=wB t A i) (Nat.zero_le _) ⟨rfl,rfl⟩ (aM.le ?_ (aI.le_cons rfl (aI.le_nil rfl))) ?_
 ·unfold wB
  repeat (refine AF.le_cons rfl ?_)
  exact AF.le_nil rfl
 rintro i f N hi ⟨rfl,rfl⟩
 unfold wB
 by_cases h1:i < A.length
 ·have d1:decide ((i:Int) < (A.length:Int))=true:=by simp;omega
  have hx:A[i]? =some A[i]:=List.getElem?_eq_getElem h1
  have fi:=aQ (i:=i) (by omega)
  have hb:=hv _ (List.getElem_mem h1)
  have ho:=hok _ (List.getElem_mem h1)
  generalize A[i]=x at hx hb ho
  have kr:=y8 x hb.1 hb.2 ho
  repeat' (first|refine zB rfl d1 ?_|refine zI rfl fi ?_|refine zA rfl ?_|refine aA ?_|refine aJ rfl ?_|refine aD rfl kr ?_|refine zX rfl (c7 hx) ?_)
  refine⟨h1,_,_,⟨rfl,rfl⟩,aM.cut (k:=1) (t:=(wB t A (i+1)).t) (l:=(wU t [] A).objs) (by show 1≤1;omega) (by show 1≤2;omega) rfl ⟨?_,?_,?_,?_,trivial⟩ (dL (by decide) rfl (iC t [] A) trivial)⟩
  ·exact aH.ptr rfl
  ·exact aH.of_closed (bO _)
  ·exact aH.of_closed aB
  ·exact aH.of_closed aB
 ·have d1:decide ((i:Int) < (A.length:Int))=false:=by simp;omega
  obtain rfl:i=A.length:=by omega
  repeat' (first|refine zB rfl d1 ?_|refine zA rfl ?_|refine aA ?_|refine aJ rfl ?_)
  refine cU rfl rfl (uZ (R:=fun e N=>e=.ret (pb (CI [] A,D6 [] A))∧N=_) 0 rfl (Nat.zero_lt_succ _) (kx A hv.short) (vH _) ⟨lZ.ptr rfl,trivial⟩ ⟨rfl,rfl⟩) ?_ (fun u M' h=>by cases h.1)
  rintro u N ⟨e,rfl⟩
  cases e
  unfold pb
  repeat' (first|refine zA rfl ?_|refine aA ?_|refine aJ rfl ?_)
  refine lV (fun k f N=>∃(g:Nat) (rest out:List Pr),rest.length=k∧(∀p,p∈rest→p∈A)∧out++rest=A∧N=a2c t (HQ [] rest) g∧f=YI out g (CI [] rest) (D6 [] rest)) (k:=A.length) ⟨0,A,[],rfl,fun _ hp=>hp,rfl,rfl,rfl⟩
   ((aM.freezeP 9 rfl rfl).trans ((aM.tok 7 rfl (sz':=6) (.inr rfl)).trans (aM.le ?_ (aI.le_cons rfl (aI.le_cons rfl (aI.le_nil rfl)))))) ?_
  ·unfold YI
   repeat (refine AF.le_cons rfl ?_)
   exact AF.le_nil rfl
  rintro k f N ⟨g,rest,out,rfl,hin,hinv,rfl,rfl⟩
  unfold a2c YI
  unfold CI D6 HQ
  cases rest with
  |nil=>
   rw[show gQ [] []=[] from rfl]
   repeat' (first|refine zA rfl ?_|refine aA ?_|refine aJ rfl ?_)
   have e:out=A:=by simpa using hinv
   exact⟨rfl,_,rfl,_,rfl,by rw[←e];exact aH.untag (rL out)⟩
  |cons p r=>
   have ho:=hok p (hin p (by simp))
   have hb:=hv p (hin p (by simp))
   rw[DB (SS (W3 ho))]
   have hinr:∀q,q∈r→q∈A:=fun q hq=>hin q (by simp[hq])
   have kn2:=kx r (fun q hq=>(hv q (hinr q hq)).1)
   have kr:=y8 p hb.1 hb.2 ho
   have lo:out.length < 10000000:=by have:=congrArg List.length hinv;simp at this;omega
   have lv:(VI out).length=out.length:=by simp[VI]
   unfold vrA
   repeat' (first|refine zA rfl ?_|refine aA ?_|refine aJ rfl ?_|refine aD rfl kr ?_|refine zR rfl ?_|refine zP rfl rfl ?_)
   refine cU rfl rfl (uZ (R:=fun e N=>e=.ret (pb (CI [] r,D6 [] r))∧N=_) 0 rfl (Nat.zero_lt_succ _) kn2 (vH _) ⟨lZ.ptr rfl,trivial⟩ ⟨rfl,rfl⟩) ?_ (fun u M' h=>by cases h.1)
   rintro u N ⟨e,rfl⟩
   cases e
   unfold pb
   repeat' (first|refine zA rfl ?_|refine aA ?_)
   refine⟨r.length,YI (out++[p]) (g+1) (CI [] r) (D6 [] r),a2c t (HQ [] r) (g+1),by simp,⟨g+1,r,out++[p],rfl,hinr,by rw[List.append_assoc];exact hinv,rfl,rfl⟩,?_⟩
   refine (aM.freezeP 9 rfl rfl).trans ?_
   refine aM.cut (k:=3) (t:=(YI (out++[p]) (g+1) (CI [] r) (D6 [] r)).t) (l:=(a2c t (HQ [] r) (g+1)).objs) (by show 2≤3;omega) (by show 3≤4;omega) rfl ⟨?_,?_,?_,?_,trivial⟩ ⟨by decide,⟨rfl,?_⟩,by decide,rfl,trivial⟩
   ·exact aH.fn (by simp;exact aH.ptr rfl) (by simp)
   ·show aH 3 (.sl 6 (VI out++[(T9 p).av]) (.tok 2 (g+1))) _
    rw[a2f]
    exact aH.tok rfl (DI _)
   ·exact aH.of_closed (j7 (BL _))
   ·exact aH.of_closed aL
   ·intro i x y hx hy
    have hx':(tY t [] (HQ [] r))[i]? =some x:=hx
    rw[hy] at hx'
    cases hx'
    exact aH.of_closed (iC t [] _ _ (List.mem_of_getElem? hy))
abbrev isQ (n:Int):dG→aI→Prop:=fun e N=>∃x,e=.ret x∧aH (TS 1 0).next x (.tup [])∧(TS 1 0).next≤N.next∧gU (TS 1 0).next N (TS 1 n).objs
theorem a09 (t:Tr) (hs:t.all.length < 10000000) (hv:dD t.all):aS Tryz.prog 115 [.ptr 0 0,.ref [t.av]] (TS 1 0) (isQ (if eY t.all=true then 0 else 1)):=by
 refine jE aF Tryz.func115 rfl (by decide) (by simp[Tryz.f115]) ?_
 cases h:eY t.all
 ·have ka:=QV t hs hv h
  unfold Tr.av at ka ⊢
  unfold TS
  repeat' (first|refine aJ rfl ?_)
  refine gY ?_
  refine iF rfl rfl rfl rfl [] (by simp) ?_
  refine lT ?_
  repeat' (first|refine zA rfl ?_|refine aJ rfl ?_|refine BP rfl rfl (ka) ?_)
  refine⟨rfl,_,rfl,bJ.le ?_ (bJ.mono (a5i 1 0 1) ?_)⟩
  ·exact aI.le_cons rfl (aI.le_nil rfl)
  ·rintro m' M' ⟨rfl,gn,g0⟩
   refine⟨_,rfl,_,rfl,aH.of_closed (aW (by simp)),?_,dL (by decide) g0 (aY aB) trivial⟩
   rw[gn]
   show 1≤1
   omega
 ·have ka:=GL t hs hv h
  unfold Tr.av at ka ⊢
  unfold TS
  repeat' (first|refine aJ rfl ?_)
  refine gY ?_
  refine iF rfl rfl rfl rfl [] (by simp) ?_
  refine lT ?_
  repeat' (first|refine zA rfl ?_|refine aA ?_|refine aJ rfl ?_|refine aD rfl ka ?_)
  refine⟨rfl,_,rfl,bJ.le ?_ (bJ.mono (a7m 1 0) ?_)⟩
  ·exact aI.le_cons rfl (aI.le_nil rfl)
  ·rintro m' M' ⟨rfl,gn,g0⟩
   refine⟨_,rfl,_,rfl,aH.of_closed (aW (by simp)),?_,dL (by decide) g0 (aY aB) trivial⟩
   rw[gn]
   show 1≤1
   omega
theorem a68 (t:Tr) (hs:t.all.length < 10000000) (hv:dD t.all):aS Tryz.prog 115 [.ptr 0 0,.ref [t.av]] (TS 1 0) fun e N=>e=.ret (.tup [])∧N=TS 1 (if eY t.all=true then 0 else 1):=
 aS.cutL (a09 t hs hv)
theorem s7 (t:Tr) (hs:t.all.length < 10000000) (hv:dD t.all):aN Tryz.prog 63 [t.av] (.bool (eY t.all)):=by
 refine aT (aY (bL t)) (aL) ?_
 refine aC aF Tryz.func63 rfl (by decide) (by simp[Tryz.f63]) ?_
 have k1:=a68 t hs hv
 unfold Tr.av at k1 ⊢
 repeat' (first|refine zA rfl ?_|refine aA ?_|refine aJ rfl ?_|refine cU rfl rfl (k1) ?_ ?_)
 ·rintro u N ⟨e,rfl⟩
  cases e
  unfold TS
  cases eY t.all
  ·repeat' (first|refine zA rfl ?_|refine aA ?_|refine aJ rfl ?_)
   exact⟨rfl,_,rfl,_,rfl,aH.of_closed aL⟩
  ·repeat' (first|refine zA rfl ?_|refine aA ?_|refine aJ rfl ?_)
   exact⟨rfl,_,rfl,_,rfl,aH.of_closed aL⟩
 ·intro u N h
  cases h.1
def jI (l:List Pr):Int:=l.foldl (fun n p=>max n p.key.time) 0
def eO (l:List Pr):Int:=if eY l=true then jI l else 0
theorem MJ {l:List Pr} {i:Nat} {x:Pr} (h:l.take (i+1)=l.take i++[x]):jI (l.take (i+1))=max (jI (l.take i)) x.key.time:=by
 unfold jI
 rw[h,List.foldl_append]
 rfl
theorem V7 (a b:Int):(if true=true then (if a < b then b else a) else if b < a then b else a)=max a b:=by
 rw[if_pos rfl]
 split<;>omega
def lm (nx:Nat) (n e:Int):aI:=⟨nx,[(0,.cells [.int .i64 n]),(1,.cells [.int .i64 e])]⟩
theorem K7 (nx:Nat) (m:kR) (n e:Int):bJ Tryz.prog 118 [.ptr 1 0,.ptr 0 0] m (lm nx n e) (fun m' M'=>m'=m∧M'.get 0=some (.cells [.int .i64 (if e=0 then n else 0)])):=by
 refine BJ aF Tryz.func118 rfl (by decide) (by simp[Tryz.f118]) ?_
 unfold lm
 by_cases h:e=0
 ·have d1:(!decide (e=0))=false:=by simp[h]
  rw[if_pos h]
  repeat' (first|refine zB rfl d1 ?_|refine zA rfl ?_|refine aA ?_|refine aJ rfl ?_)
  exact⟨rfl,⟨_,rfl⟩,rfl⟩
 ·have d1:(!decide (e=0))=true:=by simp[h]
  rw[if_neg h]
  repeat' (first|refine zB rfl d1 ?_|refine zA rfl ?_|refine aA ?_|refine aJ rfl ?_)
  exact⟨rfl,⟨_,rfl⟩,rfl⟩
def EO:bH:={f:=.func 118,cap:=[.ptr 1 0,.ptr 0 0],args:=[],keep:=[(2,.ptr 0 0)]}
def EN:bH:={f:=.func 116,cap:=[],args:=[.ptr 1 0],keep:=[]}
abbrev a4d (n:Int):dG→aI→Prop:=fun e _=>∃x,e=.ret x∧aH 0 x (.int .i64 n)
theorem X3 {M:aI} {n k:Int} {t:List (Nat×AV)} (h:(lm M.next n 0).le M) (hk:k≠0) (h2:AF.get ⟨t,[]⟩ 2=.ptr 0 0):gP Tryz.prog lY Tryz.f64 ⟨t,[]⟩ (a4d 0) [EN,EO] (.pan (nJ k)) M:=by
 refine⟨rfl,_,rfl,bJ.le h (bJ.mono (a6s M.next _ 0 k) ?_)⟩
 rintro m' M' ⟨rfl,gn,g0,g1⟩
 refine⟨rfl,_,rfl,bJ.le (N:=lm M'.next n k) (aI.le_cons g0 (aI.le_cons g1 (aI.le_nil rfl))) (bJ.mono (K7 _ _ n k) ?_)⟩
 rintro m' M' ⟨rfl,g0⟩
 rw[if_neg hk] at g0
 refine⟨.int .i64 0,?_,_,rfl,aH.of_closed aB⟩
 show kP lY M' ⟨t,[]⟩ #[.cell 2 3]=_
 simp only[kP,wY,qQ,h2,eS,g0]
 rfl
theorem WM {M:aI} {n:Int} {t:List (Nat×AV)} (h:(lm M.next n 0).le M) (h2:AF.get ⟨t,[]⟩ 2=.ptr 0 0):gP Tryz.prog lY Tryz.f64 ⟨t,[]⟩ (a4d n) [EN,EO] .ret M:=by
 refine⟨rfl,_,rfl,bJ.le h (bJ.mono (a7x M.next _ 0) ?_)⟩
 rintro m' M' ⟨rfl,gn,g0,g1⟩
 refine⟨rfl,_,rfl,bJ.le (N:=lm M'.next n 0) (aI.le_cons g0 (aI.le_cons g1 (aI.le_nil rfl))) (bJ.mono (K7 _ _ n 0) ?_)⟩
 rintro m' M' ⟨rfl,g0⟩
 rw[if_pos rfl] at g0
 refine⟨.int .i64 n,?_,_,rfl,aH.of_closed aB⟩
 show kP lY M' ⟨t,[]⟩ #[.cell 2 3]=_
 simp only[kP,wY,qQ,h2,eS,g0]
 rfl
theorem KA {k i o:Nat} (h:decide (i < k)=true):∀x,x∈[AV.ptr i o]→aH k x x:=by
 intro x hx
 simp at hx
 subst hx
 exact aH.ptr h
theorem U9:KL 2 [EN,EO]:=by
 have e:∀x,x∈([]:List AV)→aH 2 x x:=fun x hx=>by cases hx
 have e2:∀p:Nat×AV,p∈([]:List (Nat×AV))→aH 2 p.2 p.2:=fun x hx=>by cases hx
 refine⟨rfl,e,KA (k:=2) (i:=1) rfl,e2,rfl,?_,e,?_,trivial⟩
 ·intro x hx
  rcases List.mem_cons.1 hx with rfl|hx
  ·exact aH.ptr rfl
  ·exact KA (k:=2) (i:=0) rfl x hx
 ·intro p hp
  rcases List.mem_cons.1 hp with rfl|hp
  ·exact aH.ptr (k:=2) (id:=0) rfl
  ·cases hp
def DH (A:List Pr) (i:Nat):AF:=⟨[(2,.ptr 0 0),(8,vrA A .none),(9,.int .i64 (A.length:Int)),(10,.int .i64 (i:Int))],[EN,EO]⟩
theorem PW (t:Tr) (hs:t.all.length < 10000000) (hv:dD t.all):aN Tryz.prog 64 [t.av] (.int .i64 (eO t.all)):=by
 refine aT (aY (bL t)) aB ?_
 refine jE aF Tryz.func64 rfl (by decide) (by simp[Tryz.f64]) ?_
 unfold eO
 cases h:eY t.all
 ·have ka:=QV t hs hv h
  unfold Tr.av at ka ⊢
  rw[if_neg (by simp)]
  repeat' (first|refine zA rfl ?_|refine aA ?_|refine aJ rfl ?_)
  refine gY ?_
  refine XR rfl rfl mR ?_
  refine iF rfl rfl rfl rfl [(2,.ptr 0 0)] (by intro p hp;simp at hp;subst hp;rfl) ?_
  refine lT ?_
  repeat' (first|refine aJ rfl ?_)
  refine gY ?_
  refine iF rfl rfl rfl rfl [] (by simp) ?_
  refine lT ?_
  repeat' (first|refine zA rfl ?_|refine aJ rfl ?_|refine BP rfl rfl (ka) ?_)
  exact X3 (n:=0) (aI.le_cons rfl (aI.le_cons rfl (aI.le_nil rfl))) (by decide) rfl
 ·have ka:=GL t hs hv h
  have lv:((VI t.all).length:Int)=(t.all.length:Int):=by simp[VI]
  unfold Tr.av at ka ⊢
  rw[if_pos rfl]
  unfold vrA at ka
  repeat' (first|refine zA rfl ?_|refine aA ?_|refine aJ rfl ?_)
  refine gY ?_
  refine XR rfl rfl mR ?_
  refine iF rfl rfl rfl rfl [(2,.ptr 0 0)] (by intro p hp;simp at hp;subst hp;rfl) ?_
  refine lT ?_
  repeat' (first|refine aJ rfl ?_)
  refine gY ?_
  refine iF rfl rfl rfl rfl [] (by simp) ?_
  refine lT ?_
  repeat' (first|refine zI rfl lv ?_|refine zA rfl ?_|refine aA ?_|refine aJ rfl ?_|refine aD rfl ka ?_)
  generalize t.all=A at*
  refine aX A.length (fun i f N=>N=lm 2 (jI (A.take i)) 0∧f=DH A i) (Nat.zero_le _) ⟨rfl,rfl⟩ (aM.le ?_ (aI.le_cons rfl (aI.le_cons rfl (aI.le_nil rfl)))) ?_
  ·unfold DH
   repeat (refine AF.le_cons rfl ?_)
   exact AF.le_nil rfl
  rintro i f N hi ⟨rfl,rfl⟩
  by_cases h1:i < A.length
  ·have d1:decide ((i:Int) < (A.length:Int))=true:=by simp;omega
   have hx:A[i]? =some A[i]:=List.getElem?_eq_getElem h1
   have fi:=aQ (i:=i) (by omega)
   have ht:=b7 hx
   generalize A[i]=x at hx ht
   have hx':(VI A)[i]? =some (T9 x).av:=by unfold VI;rw[List.getElem?_map,hx];rfl
   have mx:=V7 (jI (A.take i)) x.key.time
   rw[←MJ ht] at mx
   unfold DH lm vrA
   repeat' (first|refine zB rfl d1 ?_|refine zI rfl (by first|exact fi|exact mx) ?_|refine zA rfl ?_|refine aA ?_|refine aJ rfl ?_|refine zX rfl (⟨Int.natCast_nonneg _,hx'⟩) ?_)
   refine⟨h1,DH A (i+1),lm 2 (jI (A.take (i+1))) 0,⟨rfl,rfl⟩,aM.cutD (k:=2) (t:=(DH A (i+1)).t) (l:=(lm 2 (jI (A.take (i+1))) 0).objs) (by show 2≤2;omega) (by show 2≤3;omega) U9 ⟨?_,?_,?_,?_,trivial⟩ (dL (by decide) rfl (aY aB) (dL (by decide) rfl (aY aB) trivial))⟩
   ·exact aH.ptr rfl
   ·exact aH.of_closed (rL A)
   ·exact aH.of_closed aB
   ·exact aH.of_closed aB
  ·have d1:decide ((i:Int) < (A.length:Int))=false:=by simp;omega
   obtain rfl:i=A.length:=by omega
   rw[List.take_length]
   unfold DH lm
   repeat' (first|refine zB rfl d1 ?_|refine zA rfl ?_|refine aA ?_|refine aJ rfl ?_)
   exact WM (aI.le_cons rfl (aI.le_cons rfl (aI.le_nil rfl))) rfl
structure En where
 path:aG
 time:Int
 meta_:Mt
deriving DecidableEq
def En.cells (x:En):List AV:=[.str x.path,.int .i64 x.time,.int .i64 x.meta_.size,.int .i64 x.meta_.mode,iA x.meta_.ch .none]
def En.av (x:En):AV:=.agg x.cells
def atP (p:aG) (x:Pr):Option En:=if x.key.path=p∧(bW x.val).2.1=false then some ⟨p,x.key.time,(bW x.val).1⟩ else none
def atL (l:List Pr) (p:aG) (w:Int):Option En:=((eX l ⟨p,min w 1000000000⟩).head?).bind (atP p)
def tE (l:List Pr) (at_:Int) (c:List Ch):Bool:=eY l&&decide (1≤at_)&&decide (at_≤1000000000)&&cL c&&decide (eO l < at_)
def uE (at_:Int) (c:Ch):Pr:=⟨⟨c.path,at_⟩,(cI c.meta_ c.gone).1⟩
noncomputable def o6 (t:Tr) (at_:Int) (c:List Ch):Tr:=c.foldl (fun t x=>o7 t (uE at_ x)) t
noncomputable def K8 (t:Tr) (at_:Int) (c:List Ch):AV:=if tE t.all at_ c=true then .tup [(o6 t at_ c).av,.int .i64 0] else .tup [.nilptr,.int .i64 1]
theorem J3 (t:Tr) (at_:Int) (c:List Ch):aP (K8 t at_ c):=by
 unfold K8
 split
 ·exact aW (aZ (bL _) aB)
 ·exact aW (aZ dX aB)
theorem A8 {at_:Int}:∀(c:List Ch) (t:Tr),t.all.length+c.length < 10000000→(o6 t at_ c).all.length≤t.all.length+c.length∧(o6 t at_ c).all=c.foldl (fun l x=>cV l (uE at_ x)) t.all
 |[],t,_=>⟨Nat.le_refl _,rfl⟩
 |x::r,t,h=>by
  simp only[List.length_cons] at h
  have h1:=KJ (t:=t) (p:=uE at_ x) (by omega)
  have h2:=(jM t.all (uE at_ x)).2.1
  have ih:=A8 (at_:=at_) r (o7 t (uE at_ x)) (by rw[h1];omega)
  rw[h1] at ih
  refine⟨?_,ih.2⟩
  simp only[List.length_cons]
  have:=ih.1
  show (o6 (o7 t (uE at_ x)) at_ r).all.length≤_
  omega
theorem RP {t:Tr} {at_:Int} {l:List Ch} {i:Nat} {x:Ch} (ht:l.take (i+1)=l.take i++[x]):o6 t at_ (l.take (i+1))=o7 (o6 t at_ (l.take i)) (uE at_ x):=by
 unfold o6
 rw[ht,List.foldl_append]
 rfl
noncomputable def VT (t:Tr) (at_:Int) (l:List Ch) (tg:eI) (i:Nat):AF:=⟨[(0,t.av),(1,.int .i64 at_),(34,gS l tg),(35,.int .i64 (l.length:Int)),(36,.int .i64 (i:Int))],[]⟩
theorem a56 (t:Tr) (at_:Int) (c:List Ch) (tg:eI) (htg:tg=.none∨tg=.full) (hs:t.all.length+c.length < 1000000) (hv:dD t.all) (hc:∀x,x∈c→fE x):aN Tryz.prog 141 [t.av,.int .i64 at_,gS c tg] (K8 t at_ c):=by
 refine aT (cD (bL t) aB (eN c htg)) (J3 _ _ _) ?_
 refine aC aF Tryz.func141 rfl (by decide) (by simp[Tryz.f141]) ?_
 have k1:=s7 t (by omega) hv
 have k2:=zK c tg (by omega) hc
 have k3:=PW t (by omega) hv
 have la:=aU Ch.av c
 have no:∀h:tE t.all at_ c=false,K8 t at_ c=.tup [.nilptr,.int .i64 1]:=fun h=>by unfold K8;rw[if_neg (by simp[h])]
 unfold tE at no
 cases h1:eY t.all
 ·rw[no (by rw[h1];rfl)]
  rw[h1] at k1
  unfold Tr.av at k1 ⊢
  repeat' (first|refine zA rfl ?_|refine aA ?_|refine aJ rfl ?_|refine aD rfl k1 ?_)
  exact⟨rfl,_,rfl,_,rfl,aH.of_closed (aW (aZ dX aB))⟩
 ·rw[h1] at k1
  by_cases h2:1≤at_
  ·have d2:decide (at_ < 1)=false:=by simp;omega
   by_cases h3:at_≤1000000000
   ·have d3:decide (1000000000 < at_)=false:=by simp;omega
    cases h4:cL c
    ·rw[no (by rw[h4];simp)]
     rw[h4] at k2
     unfold Tr.av at k1 ⊢
     unfold gS at*
     repeat' (first|refine zB rfl (by first|exact d2|exact d3) ?_|refine zA rfl ?_|refine aA ?_|refine aJ rfl ?_|refine aD rfl k1 ?_|refine aD rfl k2 ?_)
     exact⟨rfl,_,rfl,_,rfl,aH.of_closed (aW (aZ dX aB))⟩
    ·rw[h4] at k2
     by_cases h5:eO t.all < at_
     ·have d5:decide (at_≤eO t.all)=false:=by simp;omega
      have yes:K8 t at_ c=.tup [(o6 t at_ c).av,.int .i64 0]:=by
       unfold K8 tE
       rw[h1,h4,decide_eq_true h2,decide_eq_true h3,decide_eq_true h5]
       rfl
      rw[yes]
      have hm:∀x,x∈c→gE x=true:=by
       unfold cL at h4
       simp at h4
       exact h4.1.2
      unfold Tr.av at k1 k3 ⊢
      unfold gS at*
      repeat' (first|refine zB rfl (by first|exact d2|exact d3|exact d5) ?_|refine zI rfl la ?_|refine zA rfl ?_|refine aA ?_|refine aJ rfl ?_|refine aD rfl k1 ?_|refine aD rfl k2 ?_|refine aD rfl k3 ?_)
      refine aX c.length (fun i f N=>N=⟨0,[]⟩∧f=VT (o6 t at_ (c.take i)) at_ c tg i) (Nat.zero_le _) ⟨rfl,rfl⟩ (aM.le ?_ (aI.le_nil rfl)) ?_
      ·unfold VT gS Tr.av
       repeat (refine AF.le_cons rfl ?_)
       exact AF.le_nil rfl
      rintro i f N hi ⟨rfl,rfl⟩
      unfold VT gS
      by_cases g1:i < c.length
      ·have d1:decide ((i:Int) < (c.length:Int))=true:=by simp;omega
       have hx:c[i]? =some c[i]:=List.getElem?_eq_getElem g1
       have fi:=aQ (i:=i) (by omega)
       have ht:=b7 hx
       have hmx:=vG (hm _ (List.getElem_mem g1))
       have hcx:=hc _ (List.getElem_mem g1)
       generalize c[i]=x at hx ht hmx hcx
       have kv:=K2 x.meta_ x.gone hcx.2
       have e0:kF (cI x.meta_ x.gone)=.tup [.str (cI x.meta_ x.gone).1,.int .i64 0]:=by unfold kF;rw[hmx]
       rw[e0] at kv
       have hl:=(A8 (at_:=at_) (c.take i) t (by rw[List.length_take];omega)).1
       rw[List.length_take] at hl
       have kp:=OM (t:=o6 t at_ (c.take i)) (p:=uE at_ x) (by omega)
       rw[←RP ht] at kp
       generalize o6 t at_ (c.take i)=u at kp
       generalize hU:o6 t at_ (c.take (i+1))=U at kp
       unfold uE at kp
       have hUc:=bL U
       unfold Tr.av at kp ⊢
       repeat' (first|refine zB rfl d1 ?_|refine zI rfl fi ?_|refine zA rfl ?_|refine aA ?_|refine aJ rfl ?_|refine aD rfl kv ?_|refine aD rfl kp ?_|refine zX rfl (c7 hx) ?_)
       refine⟨g1,VT U at_ c tg (i+1),⟨0,[]⟩,⟨rfl,rfl⟩,aM.cut (k:=0) (t:=(VT U at_ c tg (i+1)).t) (l:=[]) (Nat.le_refl _) (Nat.zero_le _) rfl ⟨?_,?_,?_,?_,?_,trivial⟩ trivial⟩
       ·exact aH.of_closed hUc
       ·exact aH.of_closed aB
       ·exact aH.of_closed (eN c htg)
       ·exact aH.of_closed aB
       ·exact aH.of_closed aB
      ·have d1:decide ((i:Int) < (c.length:Int))=false:=by simp;omega
       obtain rfl:i=c.length:=by omega
       rw[List.take_length]
       have hUc:=bL (o6 t at_ c)
       generalize o6 t at_ c=U at*
       unfold Tr.av
       repeat' (first|refine zB rfl d1 ?_|refine zA rfl ?_|refine aA ?_|refine aJ rfl ?_)
       exact⟨rfl,_,rfl,_,rfl,aH.of_closed (aW (aZ hUc aB))⟩
     ·have d5:decide (at_≤eO t.all)=true:=by simp;omega
      rw[no (by rw[decide_eq_false h5];simp)]
      unfold Tr.av at k1 k3 ⊢
      unfold gS at*
      repeat' (first|refine zB rfl (by first|exact d2|exact d3|exact d5) ?_|refine zA rfl ?_|refine aA ?_|refine aJ rfl ?_|refine aD rfl k1 ?_|refine aD rfl k2 ?_|refine aD rfl k3 ?_)
      exact⟨rfl,_,rfl,_,rfl,aH.of_closed (aW (aZ dX aB))⟩
   ·have d3:decide (1000000000 < at_)=true:=by simp;omega
    rw[no (by rw[decide_eq_false h3];simp)]
    unfold Tr.av at k1 ⊢
    repeat' (first|refine zB rfl (by first|exact d2|exact d3) ?_|refine zA rfl ?_|refine aA ?_|refine aJ rfl ?_|refine aD rfl k1 ?_)
    exact⟨rfl,_,rfl,_,rfl,aH.of_closed (aW (aZ dX aB))⟩
  ·have d2:decide (at_ < 1)=true:=by simp;omega
   rw[no (by rw[decide_eq_false h2];simp)]
   unfold Tr.av at k1 ⊢
   repeat' (first|refine zB rfl d2 ?_|refine zA rfl ?_|refine aA ?_|refine aJ rfl ?_|refine aD rfl k1 ?_)
   exact⟨rfl,_,rfl,_,rfl,aH.of_closed (aW (aZ dX aB))⟩
structure Ld where
 at_:Int
 batch:List Ch
def Ld.av (x:Ld):AV:=.agg [.int .i64 x.at_,gS x.batch .none]
theorem A0 (m:Mt) (no:Bool) (h:m.ch.length≤30):(cI m no).1.length < 1000:=by
 unfold cI tX
 split
 ·simp
 ·split
  ·split
   ·have:=gI (g8 m)
    have hl:(g8 m).length=3+m.ch.length:=by simp[g8];omega
    simp
    omega
   ·simp
  ·simp
def okS (t:Tr) (n:Nat):Prop:=t.all.length≤n∧∀p,p∈t.all→p.key.path.length≤200∧p.val.length < 1000
theorem okS.vals {t:Tr} {n:Nat} (h:okS t n):dD t.all:=fun p hp=>by have:=h.2 p hp;omega
structure aA6 (A:List Pr) (dir:aG) (m:List Pr) (i:Nat):Prop where
 sub:m.Sublist A
 le:i≤(A.filter fun p=>jZ dir p.key.path).length
 eq:(A.filter fun p=>jZ dir p.key.path).drop i=m.filter fun p=>jZ dir p.key.path
structure a9n (l:List Pr) (p:aG) (w:Int) (x:Pr):Prop where
 mem:x∈l
 path:x.key.path=p
 le:x.key.time≤w
 top:∀y,y∈l→y.key.path=p→y.key.time≤w→y.key.time≤x.key.time
theorem v8 (a b:Ky):bG a b=true↔bl a.path b.path=true∨(a.path=b.path∧b.time < a.time):=by
 unfold bG
 simp
theorem YT {l:List Pr} (hr:cJ l) {x y:Pr} (hx:x∈l) (hy:y∈l) (h:x.key=y.key):x=y:=by
 induction l with
 |nil=>cases hx
 |cons z r ih=>
  obtain⟨h1,h2⟩:=List.pairwise_cons.1 hr
  rcases List.mem_cons.1 hx with e1|hx2
  ·rcases List.mem_cons.1 hy with e2|hy2
   ·rw[e1,e2]
   ·have:=h1 y hy2
    rw[←e1,h,fU] at this
    cases this
  ·rcases List.mem_cons.1 hy with e2|hy2
   ·have:=h1 x hx2
    rw[←e2,h,fU] at this
    cases this
   ·exact ih h2 hx2 hy2
theorem SJ (l:List Pr) (p:Pr):p∈cV l p:=by
 induction l with
 |nil=>simp[cV]
 |cons q r ih=>
  simp only[cV]
  split
  ·simp[ih]
  ·split<;>simp
theorem S1 {l:List Pr} {p y:Pr} (hy:y∈l) (h:y.key≠p.key):y∈cV l p:=by
 induction l with
 |nil=>cases hy
 |cons q r ih=>
  simp only[cV]
  rcases List.mem_cons.1 hy with rfl|hy
  ·split
   ·simp
   ·first
     |(rw[if_neg h];simp)
     |simp
  ·split
   ·simp[ih hy]
   ·split<;>simp[hy]
theorem WZ {l:List Pr} {p:Pr} (h:∀y,y∈l→y.key≠p.key):(cV l p).length=l.length+1:=by
 induction l with
 |nil=>rfl
 |cons q r ih=>
  simp only[cV]
  split
  ·simp[ih (fun y hy=>h y (by simp[hy]))]
  ·rw[if_neg (h q (by simp))]
   rfl
noncomputable def iH (l:List Pr) (at_:Int) (c:List Ch):List Pr:=c.foldl (fun l x=>cV l (uE at_ x)) l
theorem Q9 {at_:Int}:∀{c:List Ch} {l:List Pr},tW c→(∀y,y∈l→∀x,x∈c→y.key≠(uE at_ x).key)→(∀y,y∈iH l at_ c↔y∈l∨∃x,x∈c∧y=uE at_ x)∧(iH l at_ c).length=l.length+c.length
 |[],l,_,_=>⟨fun y=>by simp[iH],rfl⟩
 |x::r,l,hc,hl=>by
  obtain⟨h1,h2⟩:=List.pairwise_cons.1 hc
  have hnew:∀y,y∈l→y.key≠(uE at_ x).key:=fun y hy=>hl y hy x (by simp)
  have hne:∀z,z∈r→(uE at_ x).key≠(uE at_ z).key:=by
   intro z hz he
   have h3:=h1 z hz
   have:x.path=z.path:=congrArg Ky.path he
   rw[this,gN] at h3
   cases h3
  obtain⟨h3,h4⟩:=Q9 (at_:=at_) (c:=r) (l:=cV l (uE at_ x)) h2 (fun y hy z hz=>by
   rcases zV hy with rfl|hy
   ·exact hne z hz
   ·exact hl y hy z (by simp[hz]))
  refine⟨fun y=>?_,?_⟩
  ·show y∈iH (cV l (uE at_ x)) at_ r↔_
   rw[h3]
   constructor
   ·rintro (hy|⟨z,hz,e⟩)
    ·rcases zV hy with e|hy
     ·exact .inr ⟨x,by simp,e⟩
     ·exact .inl hy
    ·exact .inr ⟨z,by simp[hz],e⟩
   ·rintro (hy|⟨z,hz,e⟩)
    ·exact .inl (S1 hy (hnew y hy))
    ·rcases List.mem_cons.1 hz with rfl|hz
     ·exact .inl (by rw[e];exact SJ _ _)
     ·exact .inr ⟨z,hz,e⟩
  ·show (iH (cV l (uE at_ x)) at_ r).length=_
   rw[h4,WZ hnew,List.length_cons]
   omega
theorem mZ (l:List Pr):∀n:Int,n≤l.foldl (fun n p=>max n p.key.time) n∧(∀y,y∈l→y.key.time≤l.foldl (fun n p=>max n p.key.time) n)∧(l.foldl (fun n p=>max n p.key.time) n=n∨∃y,y∈l∧l.foldl (fun n p=>max n p.key.time) n=y.key.time):=by
 induction l with
 |nil=>intro n;exact⟨Int.le_refl _,fun y hy=>(by cases hy),.inl rfl⟩
 |cons x r ih=>
  intro n
  obtain⟨h1,h2,h3⟩:=ih (max n x.key.time)
  simp only[List.foldl_cons]
  refine⟨by omega,fun y hy=>?_,?_⟩
  ·rcases List.mem_cons.1 hy with rfl|hy
   ·omega
   ·exact h2 y hy
  ·rcases h3 with h3|⟨y,hy,h3⟩
   ·by_cases hx:n≤x.key.time
    ·exact .inr ⟨x,by simp,by omega⟩
    ·exact .inl (by omega)
   ·exact .inr ⟨y,by simp[hy],h3⟩
theorem Z6 {l:List Pr} {n:Int} (h0:0≤n) (h1:∀y,y∈l→y.key.time≤n) (h2:∃y,y∈l∧y.key.time=n):jI l=n:=by
 obtain⟨a,b,c⟩:=mZ l 0
 obtain⟨y,hy,e⟩:=h2
 have h3:=b y hy
 unfold jI
 rcases c with c|⟨z,hz,c⟩
 ·omega
 ·have:=h1 z hz
  omega
theorem AS {l:List Pr} (h:eY l=true) {p:Pr} (hp:p∈l):FB p=true:=by
 unfold eY at h
 rw[List.all_eq_true] at h
 exact h p hp
theorem PI {l:List Pr} (h:∀p,p∈l→FB p=true):eY l=true:=by
 unfold eY
 rw[List.all_eq_true]
 exact h
theorem CZ {c:Ch} (h:gE c=true):c.path≠[]∧cS c.path=true∧mV c.meta_=true∧(c.gone=true→c.meta_=dA):=by
 unfold gE qT at h
 simp at h
 refine⟨h.1.1.1,h.1.1.2,h.1.2,fun hg=>?_⟩
 rcases h.2 with h2|h2
 ·rw[hg] at h2
  cases h2
 ·obtain⟨⟨a,b⟩,c'⟩:=h2
  cases hm:c.meta_ with
  |mk s m l=>
   rw[hm] at a b c'
   simp only at a b c'
   rw[a,b,c']
   rfl
structure Lays (l:List Pr) (at_:Int) (c:List Ch):Prop where
 st:eY l=true
 pos:1≤at_
 le:at_≤1000000000
 ne:c≠[]
 may:∀x,x∈c→gE x=true
 rise:tW c
 new:∀y,y∈l→y.key.time < at_
 last:eO l < at_
theorem LX {l:List Pr} {at_:Int} {c:List Ch} (h:tE l at_ c=true):Lays l at_ c:=by
 unfold tE cL at h
 simp only[Bool.and_eq_true,decide_eq_true_eq,List.all_eq_true] at h
 obtain⟨⟨⟨⟨h1,h2⟩,h3⟩,⟨⟨⟨h4,h5⟩,h6⟩,h7⟩⟩,h8⟩:=h
 refine⟨h1,h2,h3,?_,h6,h7,fun y hy=>?_,h8⟩
 ·intro e
  rw[e] at h4
  simp at h4
 ·unfold eO at h8
  rw[if_pos h1] at h8
  have:=(mZ l 0).2.1 y hy
  unfold jI at h8
  omega
theorem p6 {l:List Pr} {at_:Int} {c:List Ch} (h:Lays l at_ c):(∀y,y∈iH l at_ c↔y∈l∨∃x,x∈c∧y=uE at_ x)∧(iH l at_ c).length=l.length+c.length:=
 Q9 h.rise fun y hy x hx e=>by
  have:=h.new y hy
  have e2:y.key.time=at_:=congrArg Ky.time e
  omega
theorem a6j {l:List Pr} {at_:Int} {c:List Ch} (h:Lays l at_ c) {x:Ch} (hx:x∈c):FB (uE at_ x)=true:=by
 obtain⟨h1,h2,h3,_⟩:=CZ (h.may x hx)
 unfold FB mW uE
 simp only[(KN (g:=x.gone) h3).2,h2]
 have:=h.pos
 have:=h.le
 simp
 exact⟨⟨by omega,by omega⟩,h1⟩
theorem QG {l:List Pr} {at_:Int} {c:List Ch} (h:Lays l at_ c):eY (iH l at_ c)=true:=by
 refine PI fun p hp=>?_
 rcases ((p6 h).1 p).1 hp with hp|⟨x,hx,rfl⟩
 ·exact AS h.st hp
 ·exact a6j h hx
theorem T7 {l:List Pr} {at_:Int} {c:List Ch} (h:Lays l at_ c):eO (iH l at_ c)=at_:=by
 unfold eO
 rw[if_pos (QG h)]
 obtain⟨x,r,e⟩:=List.exists_cons_of_ne_nil h.ne
 refine Z6 (by have:=h.pos;omega) (fun y hy=>?_) ⟨uE at_ x,((p6 h).1 _).2 (.inr ⟨x,by rw[e];simp,rfl⟩),rfl⟩
 rcases ((p6 h).1 y).1 hy with hy|⟨z,hz,rfl⟩
 ·have:=h.new y hy
  omega
 ·exact Int.le_refl _
theorem KQ {t:Tr} {at_:Int} {c:List Ch} (h:t.all.length+c.length < 10000000):(o6 t at_ c).all=iH t.all at_ c:=(A8 c t h).2
def zG (l:List Ld):Int:=l.foldl (fun _ x=>x.at_) 0
def a9v (x:Ld) (p:aG) (w:Int):Option (Ch×Int):=if x.at_≤w then (x.batch.find? fun c=>c.path==p).map fun c=>(c,x.at_) else none
def a8s (l:List Ld) (p:aG) (w:Int):Option (Ch×Int):=l.foldl (fun r x=>(a9v x p w).or r) none
def a9s (p:aG) (r:Option (Ch×Int)):Option En:=r.bind fun y=>if y.1.gone=true then none else some ⟨p,y.2,y.1.meta_⟩
structure a9d (t:Tr) (took:List Ld):Prop where
 st:eY t.all=true
 last:eO t.all=zG took
 rises:∀(i:Nat) x,took[i]? =some x→zG (took.take i) < x.at_
 told:∀p w,atL t.all p w=a9s p (a8s took p w)
structure Pn where
 session:Int
 at_:Int
deriving DecidableEq
def Pn.av (p:Pn):AV:=.agg [.int .i64 p.session,.int .i64 p.at_]
structure Sn where
 client:Int
 seq:Int
 code:Int
 n:Int
deriving DecidableEq
def Sn.av (p:Sn):AV:=.agg [.int .i64 p.client,.int .i64 p.seq,.int .i64 p.code,.int .i64 p.n]
structure Sg where
 last:Int
 mark:Int
 pairs:List Pr
 pins:List Pn
 seen:List Sn
deriving DecidableEq
def gW {α:Type} (q:α→Bool) (k:α→Int):Option Int→List α→Bool
 |_,[]=>true
 |none,x::r=>q x&&gW q k (some (k x)) r
 |some n,x::r=>q x&&decide (n < k x)&&gW q k (some (k x)) r
def pv {α:Type} (k:α→Int) (l:List α):Nat→Option Int
 |0=>none
 |i+1=>l[i]?.map k
theorem sU {α:Type} {q:α→Bool} {k:α→Int}:∀{l:List α} {p:Option Int},gW q k p l=true→∀x,x∈l→q x=true
 |y::r,p,h,x,hx=>by
  have h2:q y=true∧gW q k (some (k y)) r=true:=by
   cases p with
   |none=>simpa [gW] using h
   |some n=>
    simp[gW] at h
    exact⟨h.1.1,h.2⟩
  rcases List.mem_cons.1 hx with rfl|hx
  ·exact h2.1
  ·exact sU h2.2 x hx
def dP (p:Pn):Bool:=decide (0≤p.session)&&decide (p.session≤1000000)&&decide (0≤p.at_)&&decide (p.at_≤1000000000)
def fB (p:Sn):Bool:=decide (0≤p.client)&&decide (p.client≤1000000)&&decide (1≤p.seq)&&decide (p.seq≤1000000000)&&decide (0≤p.code)&&decide (p.code≤1000)&&decide (0≤p.n)&&decide (p.n≤1000000000)
def iT (l:List Pn):Bool:=gW dP Pn.session none l&&decide (l.length≤50)
def lS (l:List Sn):Bool:=gW fB Sn.client none l&&decide (l.length≤50)
def bT (s:Sg):Bool:=decide (0≤s.mark)&&decide (s.mark≤s.last)&&decide (s.last≤1000000000)&&decide (s.pairs.length≤200)&&decide (cJ s.pairs)&&eY s.pairs&&decide (eO s.pairs≤s.last)&&iT s.pins&&lS s.seen
structure fX (s:Sg):Prop where
 mark0:0≤s.mark
 mark:s.mark≤s.last
 last:s.last≤1000000000
 many:s.pairs.length≤200
 rise:cJ s.pairs
 st:eY s.pairs=true
 top:eO s.pairs≤s.last
 pins:gW dP Pn.session none s.pins=true
 pinsN:s.pins.length≤50
 seen:gW fB Sn.client none s.seen=true
 seenN:s.seen.length≤50
theorem dI {s:Sg}:bT s=true↔fX s:=by
 unfold bT iT lS
 constructor
 ·intro h
  simp at h
  obtain⟨⟨⟨⟨⟨⟨⟨⟨a,b⟩,c⟩,d⟩,e⟩,f⟩,g⟩,i,j⟩,k,l⟩:=h
  exact⟨a,b,c,d,e,f,g,i,j,k,l⟩
 ·rintro⟨a,b,c,d,e,f,g,i,j,k,l⟩
  simp[a,b,c,d,f,g,i,j,k,l]
  exact e
theorem LZ {l:List Pr} (h:cJ l):Q5 l=l:=by
 have key:∀(b a:List Pr),cJ (a++b)→b.foldl cV a=a++b:=by
  intro b
  induction b with
  |nil=>intro a _;simp
  |cons x r ih=>
   intro a hr
   have e:a++x::r=(a++[x])++r:=by simp
   have hx:cV a x=a++[x]:=by
    have:=AA (a:=a) (b:=[]) (p:=x) (fun y hy=>(List.pairwise_append.1 hr).2.2 y hy x (by simp))
    rw[List.append_nil] at this
    exact this
   rw[List.foldl_cons,hx,ih _ (by rw[←e];exact hr),e]
 exact key l [] h
theorem qZ {l:List Pr} (h:cJ l) (hn:l.length < 1000000):(iG l).all=l:=(KH hn).1.trans (LZ h)
end Go.Proofs.YthnhbmlefiafaaaGreatDoor
