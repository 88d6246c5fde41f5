/- Parts of the proof, one behind the other. No further condition. -/
import Derived.Test.YthnhbmlefiafaaaGreatDoorK25
set_option linter.unusedVariables false
set_option linter.unusedSimpArgs false
set_option maxRecDepth 100000
set_option maxHeartbeats 8000000
namespace Go.Proofs.YthnhbmlefiafaaaGreatDoor
open Go.Ab
theorem AN {l:List Ch} (h:cL l=true):(jF (dY l)).length < 900000∧jF (dY l)≠[]:=by
 obtain⟨_,h2,h3,_⟩:=iX h
 have h4:=tK (dY l)
 have h5:=mH l
 have h6:=fH (dY l).length
 unfold jF
 refine⟨by rw[List.length_append];omega,?_⟩
 simp[eU]
theorem xZ (o:Oo) (ho:cN o):aN Tryz.prog 10 [o.av] (kF (iV o)):=by
 refine aT (aY (cH o)) (bM _) ?_
 refine aC aF Tryz.func10 rfl (by decide) (by simp[Tryz.f10]) ?_
 have k1:=F8 o ho
 unfold iV
 cases h:fT o
 ·rw[h] at k1
  rw[if_neg (by simp)]
  repeat' (first|refine zA rfl ?_|refine aA ?_|refine aJ rfl ?_|refine aD rfl k1 ?_)
  exact⟨rfl,_,rfl,_,rfl,aH.of_closed (bM ([],1))⟩
 ·rw[h] at k1
  rw[if_pos rfl]
  have M:=nT h
  have ll:=aU (fun n=>AV.int .i64 n) (jR o)
  have hlen:(jR o).length=5:=rfl
  repeat' (first|refine zA rfl ?_|refine aA ?_|refine aJ rfl ?_|refine aD rfl k1 ?_|refine zR rfl ?_)
  refine aX (jR o).length (fun i f N=>N=⟨0,[]⟩∧True∧f=⟨[(1,.ref o.cells),(4,iA (jR o) .none),(5,.str (cX ((jR o).take i))),(6,.int .i64 (i:Int))],[]⟩) (Nat.zero_le _) ⟨rfl,trivial,rfl⟩ (aM.le ?_ (aI.le_nil rfl)) ?_
  ·have h22:∀t,Sub (.sl 1 [AV.int .i64 o.client,AV.int .i64 o.seq,AV.int .i64 o.kind,AV.int .i64 o.session,AV.int .i64 o.at_] t) (iA (jR o) .none):=fun t=>Sub.untag
   repeat' (first|exact AF.le_nil rfl|refine AF.le_cons rfl ?_|refine AF.le_sub (h22 _) ?_)
  rintro i f N hi ⟨rfl,_,rfl⟩
  by_cases h1:i < (jR o).length
  ·have d1:decide ((i:Int) < ((jR o).length:Int))=true:=decide_eq_true (by omega)
   have hx:(jR o)[i]? =some (jR o)[i]:=List.getElem?_eq_getElem h1
   have fi:=aQ (i:=i) (by omega)
   have ht:=b7 hx
   have hm:=G9 M _ (List.getElem_mem h1)
   generalize (jR o)[i]=x at hx ht hm
   have kx:=jH (m:=x.toNat) (by omega)
   rw[show ((x.toNat:Nat):Int)=x by omega] at kx
   have lx:=fH x.toNat
   have lc2:=gI ((jR o).take i)
   rw[List.length_take] at lc2
   have hcat:(cX ((jR o).take i)).length+(eU x.toNat).length≤9223372036854775807∧cX ((jR o).take i)++eU x.toNat=cX ((jR o).take (i+1)):=⟨by omega,(qC ht).symm⟩
   unfold iA
   repeat' (first|refine zB rfl d1 ?_|refine zI rfl (by first|exact fi|exact ll) ?_|refine zA rfl ?_|refine aA ?_|refine aJ rfl ?_|refine aD rfl kx ?_|refine zX rfl (c7 hx) ?_|refine lW rfl (hcat) ?_)
   refine⟨h1,_,_,⟨rfl,trivial,rfl⟩,aM.le ?_ (aI.le_refl _)⟩
   repeat (refine AF.le_cons rfl ?_)
   exact AF.le_nil rfl
  ·have d1:decide ((i:Int) < ((jR o).length:Int))=false:=decide_eq_false (by omega)
   obtain rfl:i=(jR o).length:=by omega
   rw[List.take_length]
   have kb:=UP o.ch .none (.inl rfl) ho.1 ho.2
   unfold GE
   unfold pcA gS at kb
   unfold iA
   have lc2:=gI (jR o)
   by_cases hk:o.kind=1
   ·have d2:decide (o.kind=1)=true:=decide_eq_true hk
    have hb:=M.lay hk
    have lr:=(AN hb).1
    rw[nK hb] at kb
    rw[if_pos hk]
    have hcat:(cX (jR o)).length+(jF (dY o.ch)).length≤9223372036854775807∧cX (jR o)++jF (dY o.ch)=cX (jR o)++jF (dY o.ch):=⟨by omega,rfl⟩
    generalize cX (jR o)=u at*
    generalize jF (dY o.ch)=v at*
    repeat' (first|refine zB rfl (by first|exact d1|exact d2) ?_|refine zI rfl ll ?_|refine zA rfl ?_|refine aA ?_|refine aJ rfl ?_|refine aD rfl kb ?_|refine lW rfl (hcat) ?_)
    exact⟨rfl,_,rfl,_,rfl,aH.of_closed (bM (u++v,0))⟩
   ·have d2:decide (o.kind=1)=false:=decide_eq_false hk
    rw[if_neg hk,List.append_nil]
    generalize cX (jR o)=u at*
    repeat' (first|refine zB rfl (by first|exact d1|exact d2) ?_|refine zI rfl ll ?_|refine zA rfl ?_|refine aA ?_|refine aJ rfl ?_)
    exact⟨rfl,_,rfl,_,rfl,aH.of_closed (bM (u,0))⟩
theorem pN (o:Oo) (ho:cN o):aN Tryz.prog 9 [o.av] (kF (iV o)):=by
 refine aT (aY (cH o)) (bM _) ?_
 refine aC aF Tryz.func9 rfl (by decide) (by simp[Tryz.f9]) ?_
 have k1:=oR o ho
 unfold iV
 cases h:fT o
 ·rw[h] at k1
  rw[if_neg (by simp)]
  repeat' (first|refine zA rfl ?_|refine aA ?_|refine aJ rfl ?_|refine aD rfl k1 ?_)
  exact⟨rfl,_,rfl,_,rfl,aH.of_closed (bM ([],1))⟩
 ·rw[h] at k1
  rw[if_pos rfl]
  have M:=nT h
  have hlen:(jR o).length=5:=rfl
  have hc0:∀i,0 < i→cX ((jR o).take i)≠[]:=by
   intro i hi
   obtain⟨j,rfl⟩:∃j,i=j+1:=⟨i - 1,by omega⟩
   unfold cX jR eU
   simp
  repeat' (first|refine MW rfl x6.v72 ?_|refine zA rfl ?_|refine aA ?_|refine aJ rfl ?_|refine aD rfl k1 ?_)
  refine aX 5 (fun i f N=>RL 1 (cX ((jR o).take i)) N∧f=⟨[(1,.ref o.cells),(4,.ptr 0 0),(24,.agg [.int .i64 o.client,.int .i64 o.seq,.int .i64 o.kind,.int .i64 o.session,.int .i64 o.at_]),(25,.int .i64 (i:Int))],[]⟩) (Nat.zero_le _) ⟨.inl ⟨rfl,rfl⟩,rfl⟩ (aM.le ?_ (aI.le_cons rfl (aI.le_nil rfl))) ?_
  ·skip
   repeat (refine AF.le_cons rfl ?_)
   exact AF.le_nil rfl
  rintro i f N hi ⟨hN,rfl⟩
  by_cases h1:i < 5
  ·have d1:decide ((i:Int) < 5)=true:=decide_eq_true (by omega)
   have hx:(jR o)[i]? =some (jR o)[i]:=List.getElem?_eq_getElem h1
   have fi:=aQ (i:=i) (by omega)
   have ht:=b7 hx
   have hm:=G9 M _ (List.getElem_mem h1)
   have kx:∀x,x∈jR o→aN Tryz.prog 27 [.int .i64 x] (.tup [.str (eU x.toNat),.int .i64 0]):=fun x hx=>by
    have h:=G9 M x hx
    have k:=nP (m:=x.toNat) (by omega)
    rw[show ((x.toNat:Nat):Int)=x by omega] at k
    exact k
   have lx:∀x:Int,(eU x.toNat).length≤5:=fun x=>fH x.toNat
   have l0:=lx o.client
   have l1:=lx o.seq
   have l2:=lx o.kind
   have l3:=lx o.session
   have l4:=lx o.at_
   have lc2:=gI ((jR o).take i)
   rw[List.length_take] at lc2
   obtain rfl|rfl|rfl|rfl|rfl:i=0∨i=1∨i=2∨i=3∨i=4:=by omega
   all_goals
    repeat' (first|refine a1w aF rfl ?_|refine zB rfl d1 ?_|refine zA rfl ?_|refine aA ?_|refine aJ rfl ?_|refine aD rfl (kx o.client (by simp[jR])) ?_|refine aD rfl (kx o.seq (by simp[jR])) ?_|refine aD rfl (kx o.kind (by simp[jR])) ?_|refine aD rfl (kx o.session (by simp[jR])) ?_|refine aD rfl (kx o.at_ (by simp[jR])) ?_)
    refine cU rfl rfl (zJ (by decide) hN (by simp[eU]) (by omega)) ?_ (fun u M' h=>by cases h.1)
    rintro u N' ⟨e,N2,hN2,hle⟩
    cases e
    repeat' (first|refine zI rfl fi ?_|refine aA ?_|refine aJ rfl ?_)
    refine⟨h1,_,_,⟨?_,rfl⟩,aM.le ?_ hle⟩
    ·rw[qC ht]
     exact hN2
    ·skip
     repeat (refine AF.le_cons rfl ?_)
     exact AF.le_nil rfl
  ·have d1:decide ((i:Int) < 5)=false:=decide_eq_false (by omega)
   obtain rfl:i=(jR o).length:=by omega
   have hq:=hc0 (jR o).length (by omega)
   rw[List.take_length] at hN hq
   have kb:=ZZ o.ch .none (.inl rfl) ho.1 ho.2
   unfold GE
   unfold pcA gS at kb
   have lc2:=gI (jR o)
   by_cases hk:o.kind=1
   ·have d2:decide (o.kind=1)=true:=decide_eq_true hk
    have hb:=M.lay hk
    obtain⟨lr,hr⟩:=AN hb
    rw[nK hb] at kb
    rw[if_pos hk]
    generalize cX (jR o)=u at*
    generalize jF (dY o.ch)=v at*
    dsimp only at kb
    repeat' (first|refine zB rfl (by first|exact d1|exact d2) ?_|refine zA rfl ?_|refine aA ?_|refine aJ rfl ?_|refine aD rfl kb ?_)
    refine cU rfl rfl (zJ (by decide) hN hr (by omega)) ?_ (fun u M' h=>by cases h.1)
    rintro w N' ⟨e,N2,hN2,hle⟩
    cases e
    repeat' (first|refine aA ?_|refine aJ rfl ?_)
    refine cU rfl rfl (aS.le hle (PA (by decide) hN2 (by simp[hq]) (by rw[List.length_append];omega))) ?_ (fun u M' h=>by cases h.1)
    rintro w N' ⟨e,hn⟩
    cases e
    repeat' (first|refine zA rfl ?_|refine aA ?_|refine aJ rfl ?_)
    exact⟨rfl,_,rfl,_,rfl,aH.of_closed (bM (u++v,0))⟩
   ·have d2:decide (o.kind=1)=false:=decide_eq_false hk
    rw[if_neg hk,List.append_nil]
    generalize cX (jR o)=u at*
    repeat' (first|refine zB rfl (by first|exact d1|exact d2) ?_|refine zA rfl ?_|refine aA ?_|refine aJ rfl ?_)
    refine cU rfl rfl (PA (by decide) hN hq (by omega)) ?_ (fun u M' h=>by cases h.1)
    rintro w N' ⟨e,hn⟩
    cases e
    repeat' (first|refine zA rfl ?_|refine aA ?_|refine aJ rfl ?_)
    exact⟨rfl,_,rfl,_,rfl,aH.of_closed (bM (u,0))⟩
def LC:Oo:=⟨0,0,0,0,0,[]⟩
def D7:List AV:=[.int .i64 0,.int .i64 0,.int .i64 0,.int .i64 0,.int .i64 0,.sl 0 [] .full]
theorem DE {k:Nat}:aH k (.agg D7) LC.av:=aH.aggL ⟨aH.of_closed aB,aH.of_closed aB,aH.of_closed aB,aH.of_closed aB,aH.of_closed aB,aH.nil,trivial⟩
def QS:Option Oo→AV
 |some o=>.tup [o.av,.int .i64 0]
 |none=>.tup [LC.av,.int .i64 30]
theorem n5 (x:Option Oo):aP (QS x):=by
 cases x with
 |none=>exact aW (aZ (cH _) aB)
 |some o=>exact aW (aZ (cH o) aB)
theorem ZT {q:aG} {m:List Nat} {c:List Ch} (h:l5 q=some c):cN (sA m c):=by
 obtain⟨h1,h2⟩:=wR (u6 h).1
 exact⟨by show c.length < _;omega,h2⟩
theorem sY (m:List Nat):cN (sA m []):=⟨by show 0 < 1000000;decide,fun c hc=>by cases hc⟩
theorem omT:aN Tryz.prog 34 [.bool true] (.tup []):=by
 intro M
 refine aC aF Tryz.func34 rfl (by decide) (by simp[Tryz.f34]) ?_
 repeat' (first|refine zA rfl ?_|refine aA ?_|refine aJ rfl ?_)
 exact⟨rfl,_,rfl,rfl,rfl⟩
theorem omF:TN Tryz.prog 34 [.bool false] (.pan (nJ 30)):=by
 refine xV (aY aL) (eJ 30) ?_
 refine aC aF Tryz.func34 rfl (by decide) (by simp[Tryz.f34]) ?_
 repeat' (first|refine zA rfl ?_|refine aA ?_|refine aJ rfl ?_)
 refine fI rfl rfl rfl rfl rfl ?_
 exact⟨rfl,aH.of_closed (eJ 30)⟩
def goM (nx:Nat) (c:List AV) (n:Int):aI:=⟨nx,[(0,.cells c),(1,.cells [.int .i64 n])]⟩
theorem a5v (nx:Nat) (a b c d e x:AV) (n v:Int):bJ Tryz.prog 33 [.ptr 0 0,.ptr 1 0] (.pan (nJ v)) (goM nx [a,b,c,d,e,x] n) (fun m' M'=>m'=.ret∧M'.get 0=some (.cells D7)∧M'.get 1=some (.cells [.int .i64 v])):=by
 refine cQ aF Tryz.func33 rfl (by decide) rfl rfl rfl rfl rfl (by simp[Tryz.f33]) ?_
 refine cM aF rfl rfl rfl rfl rfl ?_
 repeat' (first|refine zA rfl ?_|refine aA ?_|refine aJ rfl ?_)
 exact⟨rfl,⟨_,rfl⟩,rfl,rfl⟩
theorem a8o (nx:Nat) (a b c d e x:AV) (n:Int):bJ Tryz.prog 33 [.ptr 0 0,.ptr 1 0] .ret (goM nx [a,b,c,d,e,x] n) (fun m' M'=>m'=.ret∧M'.get 0=some (.cells [a,b,c,d,e,x])∧M'.get 1=some (.cells [.int .i64 n])):=by
 refine cQ aF Tryz.func33 rfl (by decide) rfl rfl rfl rfl rfl (by simp[Tryz.f33]) ?_
 refine cM aF rfl rfl rfl rfl rfl ?_
 repeat' (first|refine zA rfl ?_|refine aA ?_|refine aJ rfl ?_)
 exact⟨rfl,⟨_,rfl⟩,rfl,rfl⟩
def goD:bH:={f:=.func 33,cap:=[.ptr 0 0,.ptr 1 0],args:=[],keep:=[(2,.ptr 0 0),(3,.ptr 1 0)]}
abbrev goR (z:Option Oo):dG→aI→Prop:=fun e _=>∃x,e=.ret x∧aH 0 x (QS z)
theorem go_res {M:aI} {a b c d e x:AV} {n:Int} {t:List (Nat×AV)} (h2:AF.get ⟨t,[]⟩ 2=.ptr 0 0) (h3:AF.get ⟨t,[]⟩ 3=.ptr 1 0) (g0:M.get 0=some (.cells [a,b,c,d,e,x])) (g1:M.get 1=some (.cells [.int .i64 n])):
  kP lY M ⟨t,[]⟩ Tryz.f11.results=some (.tup [.agg [a,b,c,d,e,x],.int .i64 n]):=by
 have a1:eS M lY 24 (.ptr 0 0)=some (.agg [a,b,c,d,e,x]):=by
  simp only[eS,g0]
  rfl
 have a2:eS M lY 27 (.ptr 1 0)=some (.int .i64 n):=by
  simp only[eS,g1]
  rfl
 show kP lY M ⟨t,[]⟩ #[.cell 2 24,.cell 3 27]=_
 simp only[kP,wY,qQ,h2,h3,a1,a2]
theorem go_pan {M:aI} {a b c d e x:AV} {n:Int} {t:List (Nat×AV)} {o:Option Oo} (hs:o=none) (h:(goM M.next [a,b,c,d,e,x] n).le M) (h2:AF.get ⟨t,[]⟩ 2=.ptr 0 0) (h3:AF.get ⟨t,[]⟩ 3=.ptr 1 0):gP Tryz.prog lY Tryz.f11 ⟨t,[]⟩ (goR o) [goD] (.pan (nJ 30)) M:=by
 rw[hs]
 refine⟨rfl,33,rfl,bJ.le h (bJ.mono (a5v M.next a b c d e x n 30) ?_)⟩
 rintro m' M' ⟨rfl,g0,g1⟩
 exact⟨_,go_res h2 h3 g0 g1,_,rfl,aH.tup2 DE (aH.of_closed aB)⟩
theorem a2k {o:Oo} {t:eI}:Ab.Sub (.agg [.int .i64 o.client,.int .i64 o.seq,.int .i64 o.kind,.int .i64 o.session,.int .i64 o.at_,.sl 5 (o.ch.map Ch.av) t]) o.av:=Sub.aggL ⟨Sub.refl,Sub.refl,Sub.refl,Sub.refl,Sub.refl,Sub.untag,trivial⟩
theorem nH {o:Oo} (h:o.ch=[]):Ab.Sub (.agg [.int .i64 o.client,.int .i64 o.seq,.int .i64 o.kind,.int .i64 o.session,.int .i64 o.at_,.sl 0 [] .full]) o.av:=by
 obtain⟨a,b,c,d,e,l⟩:=o
 cases h
 exact Sub.aggL ⟨Sub.refl,Sub.refl,Sub.refl,Sub.refl,Sub.refl,Sub.nil,trivial⟩
theorem go_ret {M:aI} {o:Oo} {a b c d e x:AV} {t:List (Nat×AV)} {z:Option Oo} (hs:z=some o) (hx:Ab.Sub (.agg [a,b,c,d,e,x]) o.av) (h:(goM M.next [a,b,c,d,e,x] 0).le M) (h2:AF.get ⟨t,[]⟩ 2=.ptr 0 0) (h3:AF.get ⟨t,[]⟩ 3=.ptr 1 0):gP Tryz.prog lY Tryz.f11 ⟨t,[]⟩ (goR z) [goD] .ret M:=by
 rw[hs]
 refine⟨rfl,33,rfl,bJ.le h (bJ.mono (a8o M.next _ _ _ _ _ _ 0) ?_)⟩
 rintro m' M' ⟨rfl,g0,g1⟩
 exact⟨_,go_res h2 h3 g0 g1,_,rfl,aH.tup2 (aH.pre hx (aH.of_closed (cH o))) (aH.of_closed aB)⟩
def nC (m:List Nat):List AV:=[.int .i64 (sE m 0),.int .i64 (sE m 1),.int .i64 (sE m 2),.int .i64 (sE m 3),.int .i64 (sE m 4)]
def GoM (m:List Nat):aI:=⟨3,[(0,.cells D7),(1,.cells [.int .i64 0]),(2,.cells (nC m))]⟩
def GoF (q:aG) (i:Nat):AF:=⟨[(0,.str q),(2,.ptr 0 0),(3,.ptr 1 0),(4,.fn (.func 34) [] []),(5,.ptr 2 0),(13,.int .i64 (i:Int))],[goD]⟩
theorem oP (m:List Nat) (n j:Nat):sE (m++[n]) j=if j < m.length then sE m j else if j=m.length then (n:Int) else 0:=by
 unfold sE
 rw[List.getD_eq_getElem?_getD,List.getD_eq_getElem?_getD]
 split
 ·next h=>rw[List.getElem?_append_left h]
 ·next h=>
  rw[List.getElem?_append_right (by omega)]
  split
  ·next h2=>rw[h2,Nat.sub_self];rfl
  ·next h2=>
   obtain⟨k,hk⟩:∃k,j - m.length=k+1:=⟨j - m.length - 1,by omega⟩
   rw[hk]
   rfl
theorem xB {m:List Nat} {j:Nat} (h:m.length≤j):sE m j=0:=by
 unfold sE
 rw[List.getD_eq_getElem?_getD,List.getElem?_eq_none h]
 rfl
theorem sR (s:aG) (hs:s.length < 1000000):aN Tryz.prog 11 [.str s] (QS (kD s)):=by
 refine aT (aY aR) (n5 _) ?_
 refine jE aF Tryz.func11 rfl (by decide) (by simp[Tryz.f11]) ?_
 repeat' (first|refine zA rfl ?_|refine aA ?_|refine aJ rfl ?_)
 refine gY ?_
 refine XR rfl rfl mR ?_
 refine iF rfl rfl rfl rfl [(2,.ptr 0 0),(3,.ptr 1 0)] ?_ ?_
 ·intro p hp
  simp only[List.mem_cons,List.not_mem_nil,or_false] at hp
  rcases hp with rfl|rfl<;>rfl
 refine lT ?_
 refine W.le (g:=⟨[(0,.str s),(2,.ptr 0 0),(3,.ptr 1 0)],[goD]⟩) (N:=⟨2,[(0,.cells D7),(1,.cells [.int .i64 0])]⟩) ?_ ?_ ?_
 ·repeat (refine AF.le_cons rfl ?_)
  exact AF.le_nil rfl
 ·exact aI.le_cons rfl (aI.le_cons rfl (aI.le_nil rfl))
 have kT:=omT
 repeat' (first|refine zA rfl ?_|refine aA ?_|refine aJ rfl ?_)
 refine aX 5 (fun i f N=>∃m q,m.length=i∧FAt s i m q∧q.length≤s.length∧N=GoM m∧f=GoF q i) (Nat.zero_le _) ⟨[],s,rfl,PN s,Nat.le_refl _,rfl,rfl⟩ (aM.le ?_ (aI.le_cons rfl (aI.le_cons rfl (aI.le_cons rfl (aI.le_nil rfl))))) ?_
 ·unfold GoF
  repeat (refine AF.le_cons rfl ?_)
  exact AF.le_nil rfl
 rintro i f N hi ⟨m,q,hml,am,lq,rfl,rfl⟩
 unfold GoF
 by_cases h1:i < 5
 ·have d1:decide ((i:Int) < 5)=true:=decide_eq_true (by omega)
  have fi:=aQ (i:=i) (by omega)
  have kg:=kG q (by omega)
  cases hg:bV q with
  |none=>
   rw[hg] at kg
   have hO:=nF (J1 am hg h1)
   unfold GoM
   repeat' (first|refine zB rfl d1 ?_|refine zA rfl ?_|refine aA ?_|refine aJ rfl ?_|refine aD rfl kg ?_|refine BP rfl rfl (omF) ?_)
   exact go_pan hO (aI.le_cons rfl (aI.le_cons rfl (aI.le_nil rfl))) rfl rfl
  |some p=>
   obtain⟨n,r⟩:=p
   rw[hg] at kg
   have am2:=HV am hg
   have lr:=(eF hg).1
   have e0:=oP m n 0
   have e1:=oP m n 1
   have e2:=oP m n 2
   have e3:=oP m n 3
   have e4:=oP m n 4
   have o1:=xB (m:=m) (j:=1)
   have o2:=xB (m:=m) (j:=2)
   have o3:=xB (m:=m) (j:=3)
   have o4:=xB (m:=m) (j:=4)
   unfold GoM nC
   obtain rfl|rfl|rfl|rfl|rfl:i=0∨i=1∨i=2∨i=3∨i=4:=by omega
   all_goals
    rw[hml] at e0 e1 e2 e3 e4 o1 o2 o3 o4
    simp at e0 e1 e2 e3 e4 o1 o2 o3 o4
    repeat' (first|refine zB rfl d1 ?_|refine zI rfl fi ?_|refine zA rfl ?_|refine aA ?_|refine aJ rfl ?_|refine aD rfl kg ?_|refine aD rfl kT ?_)
    refine⟨h1,GoF r _,GoM (m++[n]),⟨m++[n],r,by simp[hml],am2,by omega,rfl,rfl⟩,aM.le ?_ ?_⟩
    ·unfold GoF
     repeat (refine AF.le_cons rfl ?_)
     exact AF.le_nil rfl
    ·unfold GoM nC
     rw[e0,e1,e2,e3,e4]
     first|exact aI.le_cons rfl (aI.le_cons rfl (aI.le_cons rfl (aI.le_nil rfl)))|(rw[o4];exact aI.le_cons rfl (aI.le_cons rfl (aI.le_cons rfl (aI.le_nil rfl))))|(rw[o3,o4];exact aI.le_cons rfl (aI.le_cons rfl (aI.le_cons rfl (aI.le_nil rfl))))|(rw[o2,o3,o4];exact aI.le_cons rfl (aI.le_cons rfl (aI.le_cons rfl (aI.le_nil rfl))))|(rw[o1,o2,o3,o4];exact aI.le_cons rfl (aI.le_cons rfl (aI.le_cons rfl (aI.le_nil rfl))))
 ·have d1:decide ((i:Int) < 5)=false:=decide_eq_false (by omega)
  obtain rfl:i=5:=by omega
  have hO:=n8 (E9 am)
  unfold GoM nC
  by_cases hk:sE m 2=1
  ·have d2:decide (sE m 2=1)=true:=decide_eq_true hk
   rw[if_pos hk] at hO
   have kb:=a1m q (by omega)
   cases hc:l5 q with
   |none=>
    rw[hc] at kb hO
    unfold gcA nmA gS at kb
    repeat' (first|refine zB rfl (by first|exact d1|exact d2) ?_|refine zA rfl ?_|refine aA ?_|refine aJ rfl ?_|refine aD rfl kb ?_|refine BP rfl rfl (omF) ?_)
    exact go_pan hO (aI.le_cons rfl (aI.le_cons rfl (aI.le_nil rfl))) rfl rfl
   |some c=>
    rw[hc] at kb hO
    dsimp only at hO
    have ki:=oR (sA m c) (ZT hc)
    unfold qP at hO
    unfold gcA nmA gS at kb
    cases hm:fT (sA m c)
    ·rw[hm] at ki hO
     rw[if_neg (by simp)] at hO
     repeat' (first|refine zB rfl (by first|exact d1|exact d2) ?_|refine zA rfl ?_|refine aA ?_|refine aJ rfl ?_|refine aD rfl kb ?_|refine aD rfl kT ?_|refine aD rfl ki ?_|refine BP rfl rfl (omF) ?_)
     exact go_pan hO (aI.le_cons rfl (aI.le_cons rfl (aI.le_nil rfl))) rfl rfl
    ·rw[hm] at ki hO
     rw[if_pos rfl] at hO
     repeat' (first|refine zB rfl (by first|exact d1|exact d2) ?_|refine zA rfl ?_|refine aA ?_|refine aJ rfl ?_|refine aD rfl kb ?_|refine aD rfl kT ?_|refine aD rfl ki ?_)
     exact go_ret hO a2k (aI.le_cons rfl (aI.le_cons rfl (aI.le_nil rfl))) rfl rfl
  ·have d2:decide (sE m 2=1)=false:=decide_eq_false hk
   rw[if_neg hk] at hO
   by_cases hq:q=[]
   ·subst hq
    rw[if_pos rfl] at hO
    have d3:(([]:aG)==[])=true:=rfl
    have ki:=(oR (sA m []) (sY m)).sub (args:=[.agg [.int .i64 (sE m 0),.int .i64 (sE m 1),.int .i64 (sE m 2),.int .i64 (sE m 3),.int .i64 (sE m 4),.sl 0 [] .full]]) ⟨nH (o:=sA m []) rfl,trivial⟩
    unfold qP at hO
    cases hm:fT (sA m [])
    ·rw[hm] at ki hO
     rw[if_neg (by simp)] at hO
     repeat' (first|refine zB rfl (by first|exact d1|exact d2|exact d3) ?_|refine zA rfl ?_|refine aA ?_|refine aJ rfl ?_|refine aD rfl ki ?_|refine BP rfl rfl (omF) ?_)
     exact go_pan hO (aI.le_cons rfl (aI.le_cons rfl (aI.le_nil rfl))) rfl rfl
    ·rw[hm] at ki hO
     rw[if_pos rfl] at hO
     repeat' (first|refine zB rfl (by first|exact d1|exact d2|exact d3) ?_|refine zA rfl ?_|refine aA ?_|refine aJ rfl ?_|refine aD rfl ki ?_|refine aD rfl kT ?_)
     exact go_ret hO (nH (o:=sA m []) rfl) (aI.le_cons rfl (aI.le_cons rfl (aI.le_nil rfl))) rfl rfl
   ·have d3:(q==[])=false:=by simp[hq]
    rw[if_neg hq] at hO
    repeat' (first|refine zB rfl (by first|exact d1|exact d2|exact d3) ?_|refine zA rfl ?_|refine aA ?_|refine aJ rfl ?_|refine BP rfl rfl (omF) ?_)
    exact go_pan hO (aI.le_cons rfl (aI.le_cons rfl (aI.le_nil rfl))) rfl rfl
def uS (l:List (Int×Int)) (t:eI):AV:=.sl 2 (l.map dK) t
theorem a0z (p q:Int×Int):(!((decide (p.1=q.1))&&((decide (p.2=q.2))&&true)))=!decide (p=q):=by
 obtain⟨a,b⟩:=p
 obtain⟨c,d⟩:=q
 by_cases h1:a=c<;>by_cases h2:b=d<;>simp[h1,h2]
theorem LK (a b:List (Int×Int)) (ta tb:eI) (ha:a.length < 1000000) (hb:b.length < 1000000):aN Tryz.prog 24 [uS a ta,uS b tb] (.bool (decide (a=b))):=by
 intro M
 refine aC aF Tryz.func24 rfl (by decide) (by simp[Tryz.f24]) ?_
 have la:=aU dK a
 have lb:=aU dK b
 unfold uS
 by_cases hl:a.length=b.length
 ·have d0:(!decide ((a.length:Int)=(b.length:Int)))=false:=by simp[hl]
  repeat' (first|refine zB rfl d0 ?_|refine zI rfl (by first|exact la|exact lb) ?_|refine zA rfl ?_|refine aA ?_|refine aJ rfl ?_)
  refine aX a.length (fun i f N=>N=M∧a.take i=b.take i∧f=⟨[(0,.sl 2 (a.map dK) ta),(1,.sl 2 (b.map dK) tb),(5,.int .i64 (i:Int))],[]⟩) (Nat.zero_le _) ⟨rfl,rfl,rfl⟩ (aM.le ?_ (aI.le_refl _)) ?_
  ·skip
   repeat (refine AF.le_cons rfl ?_)
   exact AF.le_nil rfl
  rintro i f N hi ⟨rfl,hinv,rfl⟩
  by_cases g1:i < a.length
  ·have d1:decide ((i:Int) < (a.length:Int))=true:=decide_eq_true (by omega)
   have hx:a[i]? =some a[i]:=List.getElem?_eq_getElem g1
   have hy:b[i]? =some b[i]:=List.getElem?_eq_getElem (by omega)
   have fi:=aQ (i:=i) (by omega)
   generalize a[i]=x at hx
   generalize b[i]=y at hy
   have e:=a0z x y
   by_cases h:x=y
   ·have d2:(!((decide (x.1=y.1))&&((decide (x.2=y.2))&&true)))=false:=by rw[e];simp[h]
    repeat' (first|refine zB rfl (by first|exact d1|exact d2) ?_|refine zI rfl (by first|exact la|exact fi) ?_|refine zA rfl ?_|refine aA ?_|refine aJ rfl ?_|refine zX rfl (c7 hx) ?_|refine zX rfl (c7 hy) ?_|refine aO mixed [0,1,4,5,2,3,6,7,8] [.P,.P,.R,.R,.P,.P,.R,.R,.P] rfl rfl (by kernel_rfl) ?_)
    refine⟨g1,_,_,⟨rfl,by rw[b7 hx,b7 hy,hinv,h],rfl⟩,aM.le ?_ (aI.le_refl _)⟩
    repeat (refine AF.le_cons rfl ?_)
    exact AF.le_nil rfl
   ·have d2:(!((decide (x.1=y.1))&&((decide (x.2=y.2))&&true)))=true:=by rw[e];simp[h]
    have e2:decide (a=b)=false:=decide_eq_false fun hab=>h (by subst hab;rw[hx] at hy;cases hy;rfl)
    rw[e2]
    repeat' (first|refine zB rfl (by first|exact d1|exact d2) ?_|refine zI rfl la ?_|refine zA rfl ?_|refine aA ?_|refine aJ rfl ?_|refine zX rfl (c7 hx) ?_|refine zX rfl (c7 hy) ?_|refine aO mixed [0,1,4,5,2,3,6,7,8] [.P,.P,.R,.R,.P,.P,.R,.R,.P] rfl rfl (by kernel_rfl) ?_)
    exact⟨rfl,_,rfl,rfl,rfl⟩
  ·have d1:decide ((i:Int) < (a.length:Int))=false:=decide_eq_false (by omega)
   obtain rfl:i=a.length:=by omega
   have e2:decide (a=b)=true:=by
    rw[List.take_length,hl,List.take_length] at hinv
    simp[hinv]
   rw[e2]
   repeat' (first|refine zB rfl d1 ?_|refine zI rfl la ?_|refine zA rfl ?_|refine aA ?_|refine aJ rfl ?_)
   exact⟨rfl,_,rfl,rfl,rfl⟩
 ·have d0:(!decide ((a.length:Int)=(b.length:Int)))=true:=by simp;omega
  have e2:decide (a=b)=false:=decide_eq_false fun hab=>hl (by rw[hab])
  rw[e2]
  repeat' (first|refine zB rfl d0 ?_|refine zI rfl (by first|exact la|exact lb) ?_|refine zA rfl ?_|refine aA ?_|refine aJ rfl ?_)
  exact⟨rfl,_,rfl,rfl,rfl⟩
end Go.Proofs.YthnhbmlefiafaaaGreatDoor
namespace Go.Ab
open Go.RowKit
section
variable {P:Program} {ops:Array Oper} {cls:Nat→fZ} {Q:AX→AF→aI→Prop} {ds:List bH}
structure PX where
 pre:List Nat
 a:Nat
 b:Nat
 c:Nat
 p:BH
 q:BH
 r:BH
structure Tri (A B C:Prop):Prop where
 l:A
 m:B
 r:C
def a7p (P:Program) (ops:Array Oper) (cls:Nat→fZ) (Q:AX→AF→aI→Prop) (ds:List bH) (z:PX) (t:List (Nat×AV)) (M:aI):Prop:=
 DW P ops cls (lF (fun t M=>Tri (DW P ops cls (lF (TR P ops cls Q ds z.p) Q) ds [z.a] t M) (DW P ops cls (lF (TR P ops cls Q ds z.q) Q) ds [z.b] t M) (DW P ops cls (lF (TR P ops cls Q ds z.r) Q) ds [z.c] t M)) Q) ds z.pre t M
def a5u (ops:Array Oper) (cls:Nat→fZ) (z:PX) (listed:Array Bool):Bool:=
 match GO ops cls z.pre listed with
 |none=>false
 |some l=>((Region.ready .any ops l).all fun j=>j==z.a||j==z.b||j==z.c)&&!(Region.ready .any ops l).isEmpty&&(z.p.size==z.q.size)&&(z.p.size==z.r.size)&&pOK ops cls z.p (l.setIfInBounds z.a true)&&pOK ops cls z.q (l.setIfInBounds z.b true)&&pOK ops cls z.r (l.setIfInBounds z.c true)
theorem NS (z:PX) (listed:Array Bool) (t:List (Nat×AV)) (M:aI) (hk:a5u ops cls z listed=true) (h:a7p P ops cls Q ds z t M):
  r7 P ops cls (fun v M'=>Q (.panic v) ⟨dE ds,ds⟩ M') (fun φ M=>∃t,jT t=φ∧Q .normal ⟨t,ds⟩ M) (z.pre.length+(z.p.size+1)) listed (jT t) M:=by
 unfold a5u at hk
 split at hk
 case h_1=>cases hk
 rename_i l hl
 simp only[Bool.and_eq_true,List.all_eq_true,Bool.or_eq_true,beq_iff_eq,Bool.not_eq_true'] at hk
 obtain⟨⟨⟨⟨⟨⟨h1,h2⟩,h0⟩,h5⟩,h3⟩,h4⟩,h6⟩:=hk
 refine vV (n:=z.p.size+1) (l:=l) ?_ z.pre listed t M hl h.run
 rintro t M ⟨g1,g2,g3⟩
 refine⟨fun he=>(by rw[he] at h2;cases h2),fun j hj=>?_⟩
 rcases h1 j hj with (rfl|rfl)|rfl
 ·exact pQ (Q:=lF (TR P ops cls Q ds z.p) Q) g1.run fun t' N ht=>kK z.p _ t' N h3 ht
 ·rw[h0]
  exact pQ (Q:=lF (TR P ops cls Q ds z.q) Q) g2.run fun t' N ht=>kK z.q _ t' N h4 ht
 ·rw[h5]
  exact pQ (Q:=lF (TR P ops cls Q ds z.r) Q) g3.run fun t' N ht=>kK z.r _ t' N h6 ht
theorem GQ {r:Option Nat} {n id:Nat} {t:List (Nat×AV)} {M:aI} (hm:P.follows .mixedOrders=true) (z:PX) (cl:List fZ) (hd0:(ops.toList.all fun o=>iR ds o n)=true) (hl:z.pre.length+(z.p.size+1)=ops.size)
  (hk:a5u ops (fun i=>cl.getD i .E) z (Array.replicate ops.size false)=true) (h:a7p P ops (fun i=>cl.getD i .E) Q ds z t M):W r P n (.region id ops true) Q ⟨t,ds⟩ M:=by
 have hd:(ops.all fun o=>iR ds o n)=true:=by rw[←Array.all_toList];exact hd0
 refine⟨fun μ F w a hg hr=>?_⟩
 refine wpIn_region_any hm ?_
 have hb:Below w.heap.size w {w with drawn:=w.drawn+1}:=⟨rfl,rfl,rfl,Nat.le_refl _,fun _ _=>rfl⟩
 have hev:=eB.of_below μ hb
 have hany:=NS z _ t M hk h
 rw[hl] at hany
 have hrf:rY μ F w n (jT t) ds a:=⟨hr.size,hr.tmps,hr.defs,hr.kept⟩
 refine vE (r:=r) (ds:=ds) hd (F:=F) ops.size _ (jT t) M μ {w with drawn:=w.drawn+1} a (hg.below hb) (hrf.evo hev) ?_ ?_ hany
 ·rintro μ' φ' M' w' a' e1 e2 e3 ⟨t',rfl,hq⟩
  exact⟨μ',⟨t',ds⟩,M',.normal,hev.trans e1,e2,⟨e3.size,e3.tmps,e3.defs,e3.kept⟩,trivial,hq⟩
 ·intro μ' φ' M' w' a' v u e1 e2 e3 e4 hq
  exact⟨μ',⟨dE ds,ds⟩,M',.panic u,hev.trans e1,e2,⟨e3.size,pG e3.kept,e3.defs,e3.kept⟩,⟨v,rfl,e4⟩,hq⟩
end
end Go.Ab
namespace Go.Proofs.YthnhbmlefiafaaaGreatDoor
open Go.Ab
theorem mP {s:Sg} (hs:fX s) (hv:dD s.pairs):gA s:=⟨by have:=hs.many;omega,hv,by have:=hs.pinsN;omega,by have:=hs.seenN;omega⟩
theorem a6n {s:Sg} {o:Oo} (hv:dD s.pairs) (ho:cN o):bT s=true→fT o=true→(uD s o).1.pairs.length < 1000000:=fun h1 h2=>by
 have:=(a41 (dI.1 h1) hv (nT h2) ho).state.many
 omega
theorem sF {s:Sg} {o:Oo} (hs:gA s) (ho:cN o) (hc:o.ch.length < 1000):aN Tryz.prog 19 [s.av,o.av] (P0 (dR s o)):=
 RU s o hs hs.len (by have:=hs.seen;omega) ho (uD s o) (a6n hs.vals ho) fun h1 h2 t ht=>a4l (dI.1 h1) hs.vals (nT h2) ho hc ht
theorem QK {s:Sg} {o:Oo} (hs:gA s) (ho:cN o) (hc:o.ch.length < 1000):aN Tryz.prog 20 [s.av,o.av] (P0 (dR s o)):=
 R3 s o hs hs.len (by have:=hs.seen;omega) ho (uD s o) fun h1 h2=>a2u (dI.1 h1) hs.vals (nT h2) ho hc
noncomputable def rN:List Oo→Sg→List (Int×Int)→(Sg×List (Int×Int))×Int
 |[],s,r=>((s,r),0)
 |o::l,s,r=>if (dR s o).2=0 then rN l (dR s o).1.1 (r++[(dR s o).1.2]) else ((tA,[]),(dR s o).2)
theorem iN {o:Oo} {l:List Oo} {s:Sg} {r:List (Int×Int)} (h:(dR s o).2=0):rN (o::l) s r=rN l (dR s o).1.1 (r++[(dR s o).1.2]):=if_pos h
theorem P1 {o:Oo} {l:List Oo} {s:Sg} {r:List (Int×Int)} (h:(dR s o).2≠0):rN (o::l) s r=((tA,[]),(dR s o).2):=if_neg h
theorem P5 {s:Sg} {o:Oo} (h:(dR s o).2=0):bT s=true∧fT o=true:=by
 cases h1:(bT s&&fT o) with
 |true=>simpa using h1
 |false=>
  rw[F6 h1] at h
  exact absurd h (by decide)
def BV (x:(Sg×List (Int×Int))×Int):AV:=.tup [x.1.1.av,uS x.1.2 .none,.int .i64 x.2]
theorem r8 (l:List (Int×Int)) {t:eI} (h:t=.none∨t=.full):aP (uS l t):=c8 h (fun x hx=>by obtain⟨p,_,rfl⟩:=List.mem_map.1 hx;exact cP (aZ aB aB)) (fun x hx=>by obtain⟨p,_,rfl⟩:=List.mem_map.1 hx;exact aZ aB aB)
theorem sL (x:(Sg×List (Int×Int))×Int):aP (BV x):=aW (cD (bX _) (r8 _ (.inl rfl)) aB)
theorem VX {k:Nat} {a b c d e a' b' c' d' e':AV} (h1:aH k a a') (h2:aH k b b') (h3:aH k c c') (h4:aH k d d') (h5:aH k e e'):SP k (some (.cells [a,b,c,d,e])) (.cells [a',b',c',d',e']):=by
 refine⟨rfl,?_⟩
 intro i x y hx hy
 match i with
 |0=>cases hx;cases hy;exact h1
 |1=>cases hx;cases hy;exact h2
 |2=>cases hx;cases hy;exact h3
 |3=>cases hx;cases hy;exact h4
 |4=>cases hx;cases hy;exact h5
 |j+5=>simp at hx
theorem PV (k:Nat) (s:Sg):SP k (some (.cells s.cells)) (.cells s.cells):=VX (aH.of_closed aB) (aH.of_closed aB) (aH.of_closed (bO _)) (aH.of_closed (bP _ (.inl rfl))) (aH.of_closed (bQ _ (.inl rfl)))
def yD:List AV:=[.int .i64 0,.int .i64 0,.sl 0 [] .full,.sl 0 [] .full,.sl 0 [] .full]
theorem CX (k:Nat):SP k (some (.cells yD)) (.cells tA.cells):=VX (aH.of_closed aB) (aH.of_closed aB) aH.nil aH.nil aH.nil
def PM (s:Sg) (g:Nat):aI:=⟨3,[(0,.cells yD),(1,.cells s.cells),(2,.spare g)]⟩
theorem xU (k:Nat):SP k (some (.cells yD)) (.cells yD):=VX (aH.of_closed aB) (aH.of_closed aB) (aH.of_closed (c8 (.inr rfl) (by simp) (by simp))) (aH.of_closed (c8 (.inr rfl) (by simp) (by simp))) (aH.of_closed (c8 (.inr rfl) (by simp) (by simp)))
theorem K9 {k id g:Nat} (hk:id < k) (l:List (Int×Int)) (x:Int×Int):aH k (.sl 2 (l.map dK++[dK x]) (.tok id g)) (uS (l++[x]) (.tok id g)):=by
 unfold uS
 rw[List.map_append]
 exact aH.tok (decide_eq_true hk) (by
  intro y hy c hc
  have:∃p:Int×Int,y=dK p:=by
   rcases List.mem_append.1 hy with hy|hy
   ·obtain⟨p,_,rfl⟩:=List.mem_map.1 hy
    exact⟨p,rfl⟩
   ·exact⟨x,by simpa using hy⟩
  obtain⟨p,rfl⟩:=this
  exact aZ aB aB c hc)
structure RuI (l:List Oo) (i:Nat) (s:Sg) (r:List (Int×Int)):Prop where
 run:rN l tA []=rN (l.drop i) s r
 state:bT s=true
 vals:dD s.pairs
 len:r.length=i
theorem W5 (l:List Oo):RuI l 0 tA []:=⟨rfl,by decide,(fun p hp=>by cases hp),rfl⟩
theorem PQ {l:List Oo} {i:Nat} {s:Sg} {r:List (Int×Int)} {o:Oo} (h:RuI l i s r) (hx:l[i]? =some o) (ho:cN o) (h0:(dR s o).2=0):RuI l (i+1) (dR s o).1.1 (r++[(dR s o).1.2]):=by
 obtain⟨hi,rfl⟩:=List.getElem?_eq_some_iff.1 hx
 obtain⟨h1,h2⟩:=P5 h0
 have A:=yE h1 h.vals h2 ho
 exact⟨by rw[h.run,List.drop_eq_getElem_cons hi,iN h0],dI.2 A.state,A.vals,by simp[h.len]⟩
theorem PG {l:List Oo} {i:Nat} {s:Sg} {r:List (Int×Int)} {o:Oo} (h:RuI l i s r) (hx:l[i]? =some o) (h0:(dR s o).2≠0):rN l tA []=((tA,[]),(dR s o).2):=by
 obtain⟨hi,rfl⟩:=List.getElem?_eq_some_iff.1 hx
 rw[h.run,List.drop_eq_getElem_cons hi,P1 h0]
theorem WX {l:List Oo} {s:Sg} {r:List (Int×Int)} (h:RuI l l.length s r):rN l tA []=((s,r),0):=by
 rw[h.run,List.drop_length]
 rfl
theorem PF {k:Nat} (n:Int):aH k (.tup [.agg yD,.sl 0 [] .full,.int .i64 n]) (BV ((tA,[]),n)):=aH.tup3 (aH.aggL ⟨aH.of_closed aB,aH.of_closed aB,aH.nil,aH.nil,aH.nil,trivial⟩) aH.nil (aH.of_closed aB)
def ruF (l:List Oo) (r:List (Int×Int)) (g i:Nat):AF:=⟨[(2,.ptr 0 0),(5,.ptr 1 0),(6,uS r (.tok 2 g)),(12,BD l .none),(13,.int .i64 (l.length:Int)),(14,.int .i64 (i:Int))],[]⟩
theorem G4 (l:List Oo) (hl:l.length < 1000000) (ho:∀o,o∈l→cN o∧o.ch.length < 1000):aN Tryz.prog 22 [BD l .none] (BV (rN l tA [])):=by
 refine aT (aY (kZ l (.inl rfl))) (sL _) ?_
 refine aC aF Tryz.func22 rfl (by decide) (by simp[Tryz.f22]) ?_
 have la:=aU Oo.av l
 have hcl:=kZ l (t:=.none) (.inl rfl)
 unfold BD
 repeat' (first|refine zI rfl la ?_|refine zA rfl ?_|refine aA ?_|refine aJ rfl ?_)
 refine aX l.length (fun i f N=>∃s r g,RuI l i s r∧N=PM s g∧f=ruF l r g i) (Nat.zero_le _) ⟨tA,[],0,W5 l,rfl,rfl⟩ ((aM.tok 6 rfl (sz':=2) (.inr rfl)).trans (aM.cut (k:=3) (t:=(ruF l [] 0 0).t) (l:=(PM tA 0).objs) (of_decide_eq_true rfl) (of_decide_eq_true rfl) rfl ⟨aH.ptr (by decide),aH.ptr (by decide),aH.tok (by decide) (by simp),aH.of_closed hcl,aH.of_closed aB,aH.of_closed aB,trivial⟩ ⟨by decide,xU _,by decide,CX _,by decide,rfl,trivial⟩)) ?_
 rintro i f N hi ⟨s,r,g,hI,rfl,rfl⟩
 unfold ruF uS BD
 have lr:=aU dK r
 have hri:=hI.len
 by_cases g1:i < l.length
 ·have d1:decide ((i:Int) < (l.length:Int))=true:=decide_eq_true (by omega)
  have hx:l[i]? =some l[i]:=List.getElem?_eq_getElem g1
  have fi:=aQ (i:=i) (by omega)
  obtain⟨hs1,hs2⟩:=ho _ (List.getElem_mem g1)
  generalize l[i]=o at hx hs1 hs2
  have ka:=sF (mP (dI.1 hI.state) hI.vals) hs1 hs2
  by_cases h0:(dR s o).2=0
  ·have hN:=PQ hI hx hs1 h0
   generalize dR s o=y at*
   obtain⟨⟨s',c,n⟩,e⟩:=y
   cases h0
   unfold P0 dK at ka
   unfold PM
   have d2:(!decide ((0:Int)=0))=false:=rfl
   repeat' (first|refine zB rfl (by first|exact d1|exact d2) ?_|refine zI rfl (by first|exact la|exact fi) ?_|refine zA rfl ?_|refine aA ?_|refine aJ rfl ?_|refine aD rfl ka ?_|refine zX rfl (c7 hx) ?_|refine zR rfl ?_|refine zP rfl rfl ?_)
   refine⟨g1,ruF l (r++[(c,n)]) (g+1) (i+1),PM s' (g+1),⟨s',r++[(c,n)],g+1,hN,rfl,rfl⟩,aM.cut (k:=3) (t:=(ruF l (r++[(c,n)]) (g+1) (i+1)).t) (l:=(PM s' (g+1)).objs) (of_decide_eq_true rfl) (of_decide_eq_true rfl) rfl ⟨aH.ptr (by decide),aH.ptr (by decide),K9 (by decide) r (c,n),aH.of_closed hcl,aH.of_closed aB,aH.of_closed aB,trivial⟩ ⟨by decide,xU _,by decide,PV _ _,by decide,rfl,trivial⟩⟩
  ·have hN:=PG hI hx h0
   rw[hN]
   generalize dR s o=y at*
   obtain⟨⟨s',c,n⟩,e⟩:=y
   unfold P0 dK at ka
   unfold PM
   have d2:(!decide (e=0))=true:=by simp at h0 ⊢;exact h0
   repeat' (first|refine zB rfl (by first|exact d1|exact d2) ?_|refine zA rfl ?_|refine aA ?_|refine aJ rfl ?_|refine aD rfl ka ?_|refine zX rfl (c7 hx) ?_)
   exact⟨rfl,_,rfl,_,rfl,PF e⟩
 ·have d1:decide ((i:Int) < (l.length:Int))=false:=decide_eq_false (by omega)
  obtain rfl:i=l.length:=by omega
  rw[WX hI]
  unfold PM
  repeat' (first|refine zB rfl d1 ?_|refine zA rfl ?_|refine aA ?_|refine aJ rfl ?_)
  exact⟨rfl,_,rfl,_,rfl,aH.tup3 (aH.of_closed (bX s)) (aH.untag (r8 r (.inl rfl))) (aH.of_closed aB)⟩
def XN (l:List Oo) (r:List (Int×Int)) (g i:Nat):AF:=⟨[(0,BD l .none),(2,.ptr 0 0),(5,.ptr 1 0),(6,uS r (.tok 2 g)),(7,.int .i64 (i:Int))],[]⟩
theorem XK (l:List Oo) (hl:l.length < 1000000) (ho:∀o,o∈l→cN o∧o.ch.length < 1000):aN Tryz.prog 23 [BD l .none] (BV (rN l tA [])):=by
 refine aT (aY (kZ l (.inl rfl))) (sL _) ?_
 refine aC aF Tryz.func23 rfl (by decide) (by simp[Tryz.f23]) ?_
 have la:=aU Oo.av l
 have hcl:=kZ l (t:=.none) (.inl rfl)
 unfold BD
 repeat' (first|refine zA rfl ?_|refine aA ?_|refine aJ rfl ?_)
 refine aX l.length (fun i f N=>∃s r g,RuI l i s r∧N=PM s g∧f=XN l r g i) (Nat.zero_le _) ⟨tA,[],0,W5 l,rfl,rfl⟩ ((aM.tok 6 rfl (sz':=2) (.inr rfl)).trans (aM.cut (k:=3) (t:=(XN l [] 0 0).t) (l:=(PM tA 0).objs) (of_decide_eq_true rfl) (of_decide_eq_true rfl) rfl ⟨aH.of_closed hcl,aH.ptr (by decide),aH.ptr (by decide),aH.tok (by decide) (by simp),aH.of_closed aB,trivial⟩ ⟨by decide,xU _,by decide,CX _,by decide,rfl,trivial⟩)) ?_
 rintro i f N hi ⟨s,r,g,hI,rfl,rfl⟩
 unfold XN uS BD
 have lr:=aU dK r
 have hri:=hI.len
 by_cases g1:i < l.length
 ·have d1:decide ((i:Int) < (l.length:Int))=true:=decide_eq_true (by omega)
  have hx:l[i]? =some l[i]:=List.getElem?_eq_getElem g1
  have fi:=aQ (i:=i) (by omega)
  obtain⟨hs1,hs2⟩:=ho _ (List.getElem_mem g1)
  generalize l[i]=o at hx hs1 hs2
  have ka:=QK (mP (dI.1 hI.state) hI.vals) hs1 hs2
  by_cases h0:(dR s o).2=0
  ·have hN:=PQ hI hx hs1 h0
   generalize dR s o=y at*
   obtain⟨⟨s',c,n⟩,e⟩:=y
   cases h0
   unfold P0 dK at ka
   unfold PM
   have d2:(!decide ((0:Int)=0))=false:=rfl
   repeat' (first|refine zB rfl (by first|exact d1|exact d2) ?_|refine zI rfl (by first|exact la|exact fi) ?_|refine zA rfl ?_|refine aA ?_|refine aJ rfl ?_|refine aD rfl ka ?_|refine zX rfl (c7 hx) ?_|refine zR rfl ?_|refine zP rfl rfl ?_|refine GQ mixed ⟨[1,2,3,4],0,10,11,.two [5,6,7,8,9] 10 11 (.fin [11,12,13,14]) (.fin [10,12,13,14]),.two [] 0 11 (.fin [5,6,7,8,9,11,12,13,14]) (.fin [0,5,6,7,8,9,12,13,14]),.two [] 0 10 (.fin [5,6,7,8,9,10,12,13,14]) (.fin [0,5,6,7,8,9,12,13,14])⟩ [.R,.P,.P,.P,.P,.P,.P,.P,.P,.P,.E,.E,.E,.E,.P] rfl rfl (by kernel_rfl) ?_|refine sX.mk ?_ ?_|refine Tri.mk ?_ ?_ ?_)
   all_goals
    refine⟨g1,XN l (r++[(c,n)]) (g+1) (i+1),PM s' (g+1),⟨s',r++[(c,n)],g+1,hN,rfl,rfl⟩,aM.cut (k:=3) (t:=(XN l (r++[(c,n)]) (g+1) (i+1)).t) (l:=(PM s' (g+1)).objs) (of_decide_eq_true rfl) (of_decide_eq_true rfl) rfl ⟨aH.of_closed hcl,aH.ptr (by decide),aH.ptr (by decide),K9 (by decide) r (c,n),aH.of_closed aB,trivial⟩ ⟨by decide,xU _,by decide,PV _ _,by decide,rfl,trivial⟩⟩
  ·have hN:=PG hI hx h0
   rw[hN]
   generalize dR s o=y at*
   obtain⟨⟨s',c,n⟩,e⟩:=y
   unfold P0 dK at ka
   unfold PM
   have d2:(!decide (e=0))=true:=by simp at h0 ⊢;exact h0
   repeat' (first|refine zB rfl (by first|exact d1|exact d2) ?_|refine zI rfl la ?_|refine zA rfl ?_|refine aA ?_|refine aJ rfl ?_|refine aD rfl ka ?_|refine zX rfl (c7 hx) ?_|refine GQ mixed ⟨[1,2,3,4],0,10,11,.two [5,6,7,8,9] 10 11 (.fin [11,12,13,14]) (.fin [10,12,13,14]),.two [] 0 11 (.fin [5,6,7,8,9,11,12,13,14]) (.fin [0,5,6,7,8,9,12,13,14]),.two [] 0 10 (.fin [5,6,7,8,9,10,12,13,14]) (.fin [0,5,6,7,8,9,12,13,14])⟩ [.R,.P,.P,.P,.P,.P,.P,.P,.P,.P,.E,.E,.E,.E,.P] rfl rfl (by kernel_rfl) ?_|refine sX.mk ?_ ?_|refine Tri.mk ?_ ?_ ?_)
   all_goals
    exact⟨rfl,_,rfl,_,rfl,PF e⟩
 ·have d1:decide ((i:Int) < (l.length:Int))=false:=decide_eq_false (by omega)
  obtain rfl:i=l.length:=by omega
  rw[WX hI]
  unfold PM
  repeat' (first|refine zB rfl d1 ?_|refine zI rfl la ?_|refine zA rfl ?_|refine aA ?_|refine aJ rfl ?_)
  exact⟨rfl,_,rfl,_,rfl,aH.tup3 (aH.of_closed (bX s)) (aH.untag (r8 r (.inl rfl))) (aH.of_closed aB)⟩
def dgM (g:Nat):aI:=⟨2,[(0,.cells D7),(1,.spare g)]⟩
def dgF (s:aG) (m:List Nat) (q:aG) (g i:Nat):AF:=⟨[(0,.str s),(2,.ptr 0 0),(4,iA (nI m) (.tok 1 g)),(5,.str q),(6,.int .i64 (i:Int))],[]⟩
theorem tH {k:Nat}:aH k (.tup [.agg D7,.int .i64 30]) (QS none):=aH.tup2 DE (aH.of_closed aB)
theorem ZB (s:aG) (hs:s.length < 1000000):aN Tryz.prog 12 [.str s] (QS (kD s)):=by
 refine aT (aY aR) (n5 _) ?_
 refine aC aF Tryz.func12 rfl (by decide) (by simp[Tryz.f12]) ?_
 repeat' (first|refine zA rfl ?_|refine aA ?_|refine aJ rfl ?_)
 refine aX 5 (fun i f N=>∃m q g,m.length=i∧FAt s i m q∧q.length≤s.length∧N=dgM g∧f=dgF s m q g i) (Nat.zero_le _) ⟨[],s,0,rfl,PN s,Nat.le_refl _,rfl,rfl⟩ ((aM.tok 4 rfl (sz':=1) (.inr rfl)).trans (aM.le ?_ (aI.le_cons rfl (aI.le_cons rfl (aI.le_nil rfl))))) ?_
 ·unfold dgF
  repeat (refine AF.le_cons rfl ?_)
  exact AF.le_nil rfl
 rintro i f N hi ⟨m,q,g,hml,am,lq,rfl,rfl⟩
 unfold dgF iA
 have lm:=aU (fun n=>AV.int .i64 n) (nI m)
 have lm2:(nI m).length=m.length:=by simp[nI]
 by_cases h1:i < 5
 ·have d1:decide ((i:Int) < 5)=true:=decide_eq_true (by omega)
  have fi:=aQ (i:=i) (by omega)
  have kg:=jB q (by omega)
  unfold dgM
  cases hg:bV q with
  |none=>
   rw[hg] at kg
   rw[nF (J1 am hg h1)]
   repeat' (first|refine zB rfl d1 ?_|refine zA rfl ?_|refine aA ?_|refine aJ rfl ?_|refine aD rfl kg ?_)
   exact⟨rfl,_,rfl,_,rfl,tH⟩
  |some p=>
   obtain⟨n,r⟩:=p
   rw[hg] at kg
   have am2:=HV am hg
   have lr:=(eF hg).1
   have eT:AV.sl 1 ((nI (m++[n])).map fun n=>AV.int .i64 n) (.tok 1 (g+1))=.sl 1 (((nI m).map fun n=>AV.int .i64 n)++[.int .i64 (n:Int)]) (.tok 1 (g+1)):=by simp[nI]
   repeat' (first|refine zB rfl d1 ?_|refine zI rfl fi ?_|refine zA rfl ?_|refine aA ?_|refine aJ rfl ?_|refine aD rfl kg ?_|refine zR rfl ?_|refine zP rfl rfl ?_)
   refine⟨h1,dgF s (m++[n]) r (g+1) (i+1),dgM (g+1),⟨m++[n],r,g+1,by simp[hml],am2,by omega,rfl,rfl⟩,aM.le ?_ (aI.le_cons rfl (aI.le_cons rfl (aI.le_nil rfl)))⟩
   unfold dgF iA
   rw[eT]
   repeat (refine AF.le_cons rfl ?_)
   exact AF.le_nil rfl
 ·have d1:decide ((i:Int) < 5)=false:=decide_eq_false (by omega)
  obtain rfl:i=5:=by omega
  have hO:=n8 (E9 am)
  obtain⟨hcat,_,_⟩:=rC (E9 am)
  have hnum:=fun c=>FP hml c
  have hsh:=sY m
  have hsc:=fun c (h:l5 q=some c)=>ZT (m:=m) h
  rw[hO]
  match m,hml with
  |[a,b,k,d,u],_=>
   unfold dgM
   have kp:=xZ (sA [a,b,k,d,u] []) hsh
   by_cases hk:(k:Int)=1
   ·have d2:decide ((k:Int)=1)=true:=decide_eq_true hk
    rw[if_pos (show sE [a,b,k,d,u] 2=1 from hk)]
    have kb:=W7 q (by omega)
    cases hc:l5 q with
    |none=>
     rw[hc] at kb
     unfold gcA nmA gS at kb
     repeat' (first|refine zB rfl (by first|exact d1|exact d2) ?_|refine zI rfl lm ?_|refine zA rfl ?_|refine aA ?_|refine aJ rfl ?_|refine aD rfl kb ?_|refine zX rfl (⟨by decide,rfl⟩) ?_|refine aO mixed [0,1,2,3,4,5,6,7,8,9,10,11,12,13,14,15,16,17] [.P,.P,.P,.P,.P,.P,.P,.P,.P,.P,.P,.P,.P,.P,.P,.P,.E,.E] rfl rfl (by kernel_rfl) ?_)
     all_goals
      exact⟨rfl,_,rfl,_,rfl,tH⟩
    |some c=>
     rw[hc] at kb
     have ki:=xZ (sA [a,b,k,d,u] c) (hsc c hc)
     dsimp only
     unfold gcA nmA gS at kb
     unfold qP
     unfold iV at ki
     have hB:GE (sA [a,b,k,d,u] c)=s:=by
      unfold GE
      rw[hnum,if_pos (show (sA [a,b,k,d,u] c).kind=1 from hk)]
      have:=u6 hc
      have e:=nK this.1
      rw[this.2] at e
      have e:q=jF (dY c):=congrArg Prod.fst e
      show _++jF (dY c)=_
      rw[←e,hcat]
     cases hm:fT (sA [a,b,k,d,u] c)
     ·rw[hm,if_neg (by simp)] at ki
      rw[if_neg (by simp)]
      unfold kF at ki
      repeat' (first|refine zB rfl (by first|exact d1|exact d2) ?_|refine zI rfl lm ?_|refine zA rfl ?_|refine aA ?_|refine aJ rfl ?_|refine aD rfl kb ?_|refine aD rfl ki ?_|refine zX rfl (⟨by decide,rfl⟩) ?_|refine aO mixed [0,1,2,3,4,5,6,7,8,9,10,11,12,13,14,15,16,17] [.P,.P,.P,.P,.P,.P,.P,.P,.P,.P,.P,.P,.P,.P,.P,.P,.E,.E] rfl rfl (by kernel_rfl) ?_)
      all_goals
       exact⟨rfl,_,rfl,_,rfl,tH⟩
     ·rw[hm,if_pos rfl,hB] at ki
      rw[if_pos rfl]
      unfold kF at ki
      have d3:(!(s==s))=false:=by simp
      repeat' (first|refine zB rfl (by first|exact d1|exact d2|exact d3) ?_|refine zI rfl lm ?_|refine zA rfl ?_|refine aA ?_|refine aJ rfl ?_|refine aD rfl kb ?_|refine aD rfl ki ?_|refine zX rfl (⟨by decide,rfl⟩) ?_|refine aO mixed [0,1,2,3,4,5,6,7,8,9,10,11,12,13,14,15,16,17] [.P,.P,.P,.P,.P,.P,.P,.P,.P,.P,.P,.P,.P,.P,.P,.P,.E,.E] rfl rfl (by kernel_rfl) ?_)
      all_goals
       exact⟨rfl,_,rfl,_,rfl,aH.of_closed (n5 (some (sA [a,b,k,d,u] c)))⟩
   ·have d2:decide ((k:Int)=1)=false:=decide_eq_false hk
    rw[if_neg (show ¬sE [a,b,k,d,u] 2=1 from hk)]
    have ki:=kp.sub (args:=[.agg [.int .i64 (a:Int),.int .i64 (b:Int),.int .i64 (k:Int),.int .i64 (d:Int),.int .i64 (u:Int),.sl 0 [] .full]]) ⟨nH (o:=sA [a,b,k,d,u] []) rfl,trivial⟩
    have hB:GE (sA [a,b,k,d,u] [])=cX (nI [a,b,k,d,u]):=by
     unfold GE
     rw[hnum,if_neg (show ¬(sA [a,b,k,d,u] []).kind=1 from hk),List.append_nil]
    unfold qP
    unfold iV at ki
    cases hm:fT (sA [a,b,k,d,u] [])
    ·rw[hm,if_neg (by simp)] at ki
     unfold kF at ki
     have e:(if q=[] then (if false=true then some (sA [a,b,k,d,u] []) else none) else none)=none:=by split<;>rfl
     rw[e]
     repeat' (first|refine zB rfl (by first|exact d1|exact d2) ?_|refine zI rfl lm ?_|refine zA rfl ?_|refine aA ?_|refine aJ rfl ?_|refine aD rfl ki ?_|refine zX rfl (⟨by decide,rfl⟩) ?_|refine aO mixed [0,1,2,3,4,5,6,7,8,9,10,11,12,13,14,15,16,17] [.P,.P,.P,.P,.P,.P,.P,.P,.P,.P,.P,.P,.P,.P,.P,.P,.E,.E] rfl rfl (by kernel_rfl) ?_)
     all_goals
      exact⟨rfl,_,rfl,_,rfl,tH⟩
    ·rw[hm,if_pos rfl,hB] at ki
     rw[if_pos rfl]
     unfold kF at ki
     by_cases hq:q=[]
     ·rw[if_pos hq]
      rw[hq,List.append_nil] at hcat
      rw[hcat] at ki
      have d3:(!(s==s))=false:=by simp
      repeat' (first|refine zB rfl (by first|exact d1|exact d2|exact d3) ?_|refine zI rfl lm ?_|refine zA rfl ?_|refine aA ?_|refine aJ rfl ?_|refine aD rfl ki ?_|refine zX rfl (⟨by decide,rfl⟩) ?_|refine aO mixed [0,1,2,3,4,5,6,7,8,9,10,11,12,13,14,15,16,17] [.P,.P,.P,.P,.P,.P,.P,.P,.P,.P,.P,.P,.P,.P,.P,.P,.E,.E] rfl rfl (by kernel_rfl) ?_)
      all_goals
       exact⟨rfl,_,rfl,_,rfl,aH.pre (Sub.tup2 (nH (o:=sA [a,b,k,d,u] []) rfl) Sub.refl) (aH.of_closed (n5 (some (sA [a,b,k,d,u] []))))⟩
     ·rw[if_neg hq]
      have hne:cX (nI [a,b,k,d,u])≠s:=by
       intro h
       rw[h] at hcat
       exact hq (by simpa using hcat)
      generalize cX (nI [a,b,k,d,u])=v at*
      have d3:(!(v==s))=true:=by simp[hne]
      repeat' (first|refine zB rfl (by first|exact d1|exact d2|exact d3) ?_|refine zI rfl lm ?_|refine zA rfl ?_|refine aA ?_|refine aJ rfl ?_|refine aD rfl ki ?_|refine zX rfl (⟨by decide,rfl⟩) ?_|refine aO mixed [0,1,2,3,4,5,6,7,8,9,10,11,12,13,14,15,16,17] [.P,.P,.P,.P,.P,.P,.P,.P,.P,.P,.P,.P,.P,.P,.P,.P,.E,.E] rfl rfl (by kernel_rfl) ?_)
      all_goals
       exact⟨rfl,_,rfl,_,rfl,tH⟩
def cA:Ch:=⟨[97],false,dA⟩
def KZ:Oo:=⟨1,1,1,0,0,[cA]⟩
def TJ:Oo:=⟨1,2,2,5,1,[]⟩
def BI:Oo:=⟨1,3,4,0,9,[]⟩
def op5:Oo:=⟨1,4,3,5,0,[]⟩
def op6:Oo:=⟨1,5,4,0,9,[]⟩
def lD:List Oo:=[KZ,KZ,TJ,BI,op5,op6]
def vA:aG:=(cI dA false).1
def pA:List Pr:=[⟨⟨[97],1⟩,vA⟩]
theorem PS:bW vA=(dA,false,0):=oU (by decide)
theorem a5m:FB ⟨⟨[97],1⟩,vA⟩=true:=by unfold FB;rw[PS];decide
theorem a48:eY pA=true:=by simp[eY,pA,a5m]
theorem a15:eO pA=1:=by unfold eO;rw[if_pos a48];rfl
theorem a2g:cJ pA:=List.pairwise_singleton _ _
theorem XQ (w:Int):mQ pA w=pA:=List.filter_eq_self.2 fun x hx=>by
 rw[Bool.not_eq_true',Bool.eq_false_iff]
 intro h
 unfold pA at hx
 obtain rfl:=List.mem_singleton.1 hx
 obtain⟨_,⟨y,hy,_,h1,_⟩|h⟩:=kH.1 h
 ·obtain rfl:=List.mem_singleton.1 hy
  exact absurd h1 (by decide)
 ·unfold MX at h
  rw[PS] at h
  cases h
def s1:Sg:=⟨1,0,pA,[],[⟨1,1,0,1⟩]⟩
def s3:Sg:=⟨1,0,pA,[⟨5,1⟩],[⟨1,2,0,1⟩]⟩
def s4:Sg:=⟨1,1,pA,[⟨5,1⟩],[⟨1,3,0,1⟩]⟩
def s5:Sg:=⟨1,1,pA,[],[⟨1,4,0,1⟩]⟩
def s6:Sg:=⟨1,1,pA,[],[⟨1,5,0,1⟩]⟩
theorem CY {m:Int} {p:List Pn} {u:List Sn} (h0:0≤m) (h1:m≤1) (h2:iT p=true) (h3:lS u=true):bT ⟨1,m,pA,p,u⟩=true:=by
 unfold iT at h2
 unfold lS at h3
 simp only[Bool.and_eq_true,decide_eq_true_eq] at h2 h3
 exact dI.2 ⟨h0,h1,(by decide:(1:Int)≤1000000000),(by show pA.length≤200;decide),a2g,a48,(by show eO pA≤1;rw[a15];decide),h2.1,h2.2,h3.1,h3.2⟩
theorem mD {s:Sg} {o:Oo} {z:Sg×(Int×Int)} {l:List Sn} (hs:bT s=true) (hm:fT o=true) (hd:uD s o=z) (hl:(lB s.seen o.client o.seq).2=0) (hp:nG s.seen (nX o z)=(l,0)):dR s o=(({z.1 with seen:=l},z.2),0):=by
 unfold dR
 rw[hd]
 unfold QB
 rw[if_pos (JE hs hm),if_neg (by rw[hl];decide),if_neg (by rw[hl];decide),hp,if_pos rfl]
theorem a3u:dR tA KZ=((s1,(0,1)),0):=mD (z:=({tA with pairs:=pA,last:=1},(0,1))) (by decide) (by decide) (by
 unfold uD BN
 rw[if_pos (by rfl),if_neg (by decide)]
 rfl) (by decide) (by decide)
theorem a3t:dR s1 KZ=((s1,(0,1)),0):=by
 unfold dR QB
 rw[if_pos (JE (show bT s1=true from CY (by decide) (by decide) (by decide) (by decide)) (show fT KZ=true by decide)),if_pos (by decide)]
 rfl
theorem a3p:dR s1 TJ=((s3,(0,1)),0):=mD (z:=({s1 with pins:=[⟨5,1⟩]},(0,1))) (CY (by decide) (by decide) (by decide) (by decide)) (by decide) (by
 unfold uD
 rw[if_neg (by decide),if_pos (by decide)]
 rfl) (by decide) (by decide)
theorem a3s:dR s3 BI=((s4,(0,1)),0):=mD (z:=({s3 with pairs:=pA,mark:=1},(0,1))) (CY (by decide) (by decide) (by decide) (by decide)) (by decide) (by
 unfold uD
 rw[if_neg (by decide),if_neg (by decide),if_neg (by decide)]
 unfold nU
 rw[show s3.pairs=pA from rfl,XQ]
 rfl) (by decide) (by decide)
theorem a4a:dR s4 op5=((s5,(0,1)),0):=mD (z:=({s4 with pins:=[]},(0,1))) (CY (by decide) (by decide) (by decide) (by decide)) (by decide) (by
 unfold uD
 rw[if_neg (by decide),if_neg (by decide),if_pos (by decide)]
 rfl) (by decide) (by decide)
theorem a42:dR s5 op6=((s6,(0,1)),0):=mD (z:=({s5 with pairs:=pA,mark:=1},(0,1))) (CY (by decide) (by decide) (by decide) (by decide)) (by decide) (by
 unfold uD
 rw[if_neg (by decide),if_neg (by decide),if_neg (by decide)]
 unfold nU
 rw[show s5.pairs=pA from rfl,XQ]
 rfl) (by decide) (by decide)
def rD:List (Int×Int):=[(0,1),(0,1),(0,1),(0,1),(0,1),(0,1)]
theorem a7q:rN lD tA []=((s6,rD),0):=by
 unfold lD
 rw[iN (by rw[a3u]),a3u,iN (by rw[a3t]),a3t,iN (by rw[a3p]),a3p,iN (by rw[a3s]),a3s,iN (by rw[a4a]),a4a,iN (by rw[a42]),a42]
 rfl
def sS:Sg:=⟨0,0,[],[],[⟨1,2,181,0⟩]⟩
theorem a3x:dR tA TJ=((sS,(181,0)),0):=mD (z:=(tA,(181,0))) (by decide) (by decide) (by
 unfold uD
 rw[if_neg (by decide),if_pos (by decide)]
 rfl) (by decide) (by decide)
theorem a7n:rN [TJ] tA []=((sS,[(181,0)]),0):=by
 rw[iN (by rw[a3x]),a3x]
 rfl
def bD:aG:=[1,1,1,3,1,4,0,1,9]
theorem a8m:iV BI=(bD,0):=by decide
theorem a98:kD bD=some BI:=by
 have:=B5 (o:=BI) (by decide)
 rw[show GE BI=bD by decide] at this
 exact this
theorem a4h:kD []=none:=nF (oC rfl)
theorem a7o:dR s6 LC=((tA,(0,0)),1):=F6 (by rw[show fT LC=false by decide,Bool.and_false])
theorem pR:∀o,o∈lD→cN o∧o.ch.length < 1000:=by
 intro o ho
 have key:∀o:Oo,(o.ch=[cA]∨o.ch=[])→cN o∧o.ch.length < 1000:=fun o h=>by
  rcases h with h|h
  ·unfold cN
   rw[h]
   refine⟨⟨by decide,fun c hc=>?_⟩,by decide⟩
   obtain rfl:=List.mem_singleton.1 hc
   exact⟨by decide,by decide⟩
  ·unfold cN
   rw[h]
   exact⟨⟨by decide,fun c hc=>by cases hc⟩,by decide⟩
 unfold lD at ho
 simp only[List.mem_cons,List.not_mem_nil,or_false] at ho
 rcases ho with rfl|rfl|rfl|rfl|rfl|rfl
 all_goals first|exact key _ (.inl rfl)|exact key _ (.inr rfl)
def oA (o:Oo):AV:=.agg [.int .i64 o.client,.int .i64 o.seq,.int .i64 o.kind,.int .i64 o.session,.int .i64 o.at_,.sl 0 [] .full]
def lDL:List AV:=[KZ.av,KZ.av,oA TJ,oA BI,oA op5,oA op6]
def lDA:AV:=.sl 6 [KZ.av,KZ.av,oA TJ,oA BI,oA op5,oA op6] .full
theorem oM (o:Oo) (ho:o.ch=[]) {j:Nat} {a b:AV} (h3:(oA o).cells[j]? =some a) (h4:o.av.cells[j]? =some b):Ab.Sub a b:=by
 match j,h3,h4 with
 |0,h3,h4=>cases h3;cases h4;exact Sub.refl
 |1,h3,h4=>cases h3;cases h4;exact Sub.refl
 |2,h3,h4=>cases h3;cases h4;exact Sub.refl
 |3,h3,h4=>cases h3;cases h4;exact Sub.refl
 |4,h3,h4=>cases h3;cases h4;exact Sub.refl
 |5,h3,h4=>
  cases h3
  have h4:some (gS o.ch .none)=some b:=h4
  rw[ho] at h4
  cases h4
  exact Sub.nil
 |j+6,h3,h4=>simp[AV.cells,oA] at h3
theorem a5p:Ab.Sub lDA (BD lD .none):=by
 refine Sub.trans Sub.untag (slL (by simp[AV.cells,oA,Oo.av,Oo.cells]) (by intro y hy;obtain⟨o,_,rfl⟩:=List.mem_map.1 hy;rfl) rfl ?_)
 intro i x y j a b h1 h2 h3 h4
 match i,h1,h2 with
 |0,h1,h2=>cases h1;cases h2;rw[h3] at h4;cases h4;exact Sub.refl
 |1,h1,h2=>cases h1;cases h2;rw[h3] at h4;cases h4;exact Sub.refl
 |2,h1,h2=>cases h1;cases h2;exact oM TJ rfl h3 h4
 |3,h1,h2=>cases h1;cases h2;exact oM BI rfl h3 h4
 |4,h1,h2=>cases h1;cases h2;exact oM op5 rfl h3 h4
 |5,h1,h2=>cases h1;cases h2;exact oM op6 rfl h3 h4
 |i+6,h1,_=>simp at h1
theorem a5l:Ab.Sub (.sl 5 [.agg [.str [97],.bool false,.int .i64 0,.int .i64 0,.sl 0 [] .full]] .full) (gS [cA] .none):=by
 refine Sub.trans Sub.untag (slL (by simp[AV.cells]) (by intro y hy;simp[cA] at hy;subst hy;rfl) rfl ?_)
 intro i x y j a b h1 h2 h3 h4
 match i,h1,h2 with
 |0,h1,h2=>
  simp at h1 h2
  subst h1;subst h2
  match j,h3,h4 with
  |0,h3,h4=>cases h3;cases h4;exact Sub.refl
  |1,h3,h4=>cases h3;cases h4;exact Sub.refl
  |2,h3,h4=>cases h3;cases h4;exact Sub.refl
  |3,h3,h4=>cases h3;cases h4;exact Sub.refl
  |4,h3,h4=>cases h3;cases h4;exact Sub.nil
  |j+5,h3,h4=>simp[AV.cells] at h3
 |i+1,h1,_=>simp at h1
theorem a1f:Ab.Sub (.agg [.int .i64 1,.int .i64 1,.int .i64 1,.int .i64 0,.int .i64 0,.sl 5 [.agg [.str [97],.bool false,.int .i64 0,.int .i64 0,.sl 0 [] .full]] .full]) KZ.av:=Sub.aggL ⟨Sub.refl,Sub.refl,Sub.refl,Sub.refl,Sub.refl,a5l,trivial⟩
theorem a3g:Ab.Sub (.sl 6 [oA TJ] .none) (BD [TJ] .none):=by
 refine slL (by simp[AV.cells,oA]) (by intro y hy;obtain⟨o,_,rfl⟩:=List.mem_map.1 hy;rfl) rfl ?_
 intro i x y j a b h1 h2 h3 h4
 match i,h1,h2 with
 |0,h1,h2=>cases h1;cases h2;exact oM TJ rfl h3 h4
 |i+1,h1,_=>simp at h1
theorem VU:aN Tryz.prog 39 [.int .i64 1] KZ.av:=by
 refine aT (aY aB) (cH KZ) ?_
 refine aC aF Tryz.func39 rfl (by decide) (by simp[Tryz.f39]) ?_
 repeat' (first|refine zA rfl ?_|refine aA ?_|refine aJ rfl ?_|refine zR rfl ?_)
 exact⟨rfl,_,rfl,_,rfl,aH.pre a1f (aH.of_closed (cH KZ))⟩
def doF (k:Nat):AF:=⟨[(1,lDA),(3,.sl 2 (rD.map dK) .none),(4,.int .i64 0),(8,.str bD),(9,.int .i64 0),(10,.ptr 2 0),(11,.int .i64 0),(13,.int .i64 30),(16,.int .i64 1),(17,.bool true),(18,.int .i64 (k:Int))],[]⟩
theorem p7:aN Tryz.prog 13 [] (.bool true):=by
 refine aT (IK) (aL) ?_
 refine aC aF Tryz.func13 rfl (by decide) (by simp[Tryz.f13]) ?_
 have kl:=VU
 have k1:=(G4 lD (by decide) pR).sub (args:=[lDA]) ⟨a5p,trivial⟩
 have k2:=(G4 [TJ] (by decide) (fun o h=>pR o (by rw[List.mem_singleton.1 h];decide))).sub (args:=[.sl 6 [oA TJ] .none]) ⟨a3g,trivial⟩
 have k3:=(pN BI (pR BI (by decide)).1).sub (args:=[oA BI]) ⟨nH (o:=BI) rfl,trivial⟩
 have k4:=sR bD (by decide)
 have k5:=sR [] (by decide)
 have k6:=(sF (s:=s6) (o:=LC) (mP (dI.1 (CY (by decide) (by decide) (by decide) (by decide))) (fun p hp=>by
  obtain rfl:=List.mem_singleton.1 hp
  exact⟨by decide,by have:=A0 dA false (by decide);show vA.length < _;unfold vA;omega⟩)) ⟨by decide,fun c hc=>by cases hc⟩ (by decide)).sub (args:=[s6.av,oA LC]) ⟨Sub.refl,nH (o:=LC) rfl,trivial⟩
 have k7:=(u4 BI BI (pR BI (by decide)).1 (pR BI (by decide)).1).sub (args:=[BI.av,oA BI]) ⟨Sub.refl,nH (o:=BI) rfl,trivial⟩
 have k8:=oR KZ (pR KZ (by decide)).1
 rw[a7q] at k1
 rw[a7n] at k2
 rw[a8m] at k3
 rw[a98] at k4
 rw[a4h] at k5
 rw[a7o] at k6
 rw[decide_eq_true rfl] at k7
 rw[show fT KZ=true by decide] at k8
 unfold BV uS at k1 k2
 unfold lDA at k1
 unfold P0 dK at k6
 unfold oA at k1 k2 k3 k6 k7
 unfold kF bD at k3
 unfold bD at k4
 unfold QS at k4 k5
 have s2:(0:Int)≤2∧(2:Int)≤3∧(3:Int)≤((lDL).length:Int)∧((lDL).take (3:Int).toNat).drop (2:Int).toNat=[oA TJ]:=⟨by decide,by decide,by decide,rfl⟩
 unfold lDL oA at s2
 repeat' (first|refine zA rfl ?_|refine aA ?_|refine aJ rfl ?_|refine aD rfl kl ?_|refine aD rfl k1 ?_|refine aD rfl k2 ?_|refine aD rfl k3 ?_|refine aD rfl k4 ?_|refine aD rfl k5 ?_|refine aD rfl k6 ?_|refine zX rfl (⟨by decide,rfl⟩) ?_|refine i5 aF rfl (s2) ?_|refine zR rfl ?_)
 have hr0:∀k,k < 6→rD[k]? =some (0,1):=by decide
 have lr:=aU dK rD
 have lr6:rD.length=6:=rfl
 refine aX rD.length (fun k f N=>N=⟨6,[(2,.cells BI.cells)]⟩∧f=doF k) (Nat.zero_le _) ⟨rfl,rfl⟩ (aM.le ?_ (aI.le_cons rfl (aI.le_nil rfl))) ?_
 ·unfold doF
  repeat (refine AF.le_cons rfl ?_)
  exact AF.le_nil rfl
 rintro k f N hk ⟨rfl,rfl⟩
 unfold doF
 by_cases g1:k < rD.length
 ·have d1:decide ((k:Int) < (rD.length:Int))=true:=decide_eq_true (by omega)
  have fk:=aQ (i:=k) (by omega)
  have hx:=hr0 k (by omega)
  repeat' (first|refine zB rfl d1 ?_|refine zI rfl (by first|exact lr|exact fk) ?_|refine zA rfl ?_|refine aA ?_|refine aJ rfl ?_|refine zX rfl (c7 hx) ?_)
  refine⟨g1,doF (k+1),_,⟨rfl,rfl⟩,aM.le ?_ (aI.le_refl _)⟩
  unfold doF
  repeat (refine AF.le_cons rfl ?_)
  exact AF.le_nil rfl
 ·have d1:decide ((k:Int) < (rD.length:Int))=false:=decide_eq_false (by omega)
  unfold lDA oA
  repeat' (first|refine zB rfl d1 ?_|refine zI rfl lr ?_|refine zA rfl ?_|refine aA ?_|refine aJ rfl ?_|refine aD rfl k7 ?_|refine aD rfl k8 ?_|refine zX rfl (⟨by decide,rfl⟩) ?_|refine aO mixed [0,1,2,3,4,5,6,7,8,9,10,11,12,13,14,15,17,16,18,19,20,21,22,23,24,25,26,27,28,29,30,31,32,33,34,35,36] [.P,.P,.P,.P,.P,.P,.P,.P,.P,.P,.P,.P,.P,.P,.P,.P,.R,.P,.R,.R,.P,.P,.P,.P,.P,.P,.P,.P,.P,.P,.P,.P,.R,.R,.P,.P,.P] rfl rfl (by kernel_rfl) ?_)
  all_goals
   exact⟨rfl,_,rfl,_,rfl,aH.of_closed aL⟩
end Go.Proofs.YthnhbmlefiafaaaGreatDoor
