/- Parts of the proof, one behind the other. No further condition. -/
import Derived.Test.YthnhbmlefiafaaaGreatDoorK11
import Derived.Shelf.Strings.Builder1
set_option linter.unusedVariables false
set_option linter.unusedSimpArgs false
set_option maxRecDepth 100000
set_option maxHeartbeats 8000000
namespace Go.Proofs.YthnhbmlefiafaaaGreatDoor
open Go.Ab
def a47:List AV:=[.int .i64 0,.int .i64 0,.sl 0 [] .full]
def VB (nx:Nat) (x y z:AV) (n:Int):aI:=⟨nx,[(0,.cells [x,y,z]),(1,.cells [.int .i64 n])]⟩
theorem a54 (nx:Nat) (x y z:AV) (n e:Int):bJ Tryz.prog 170 [.ptr 0 0,.ptr 1 0] (.pan (nJ e)) (VB nx x y z n) (fun m' M'=>m'=.ret∧M'.get 0=some (.cells a47)∧M'.get 1=some (.cells [.int .i64 e])):=by
 refine cQ aF Tryz.func170 rfl (by decide) rfl rfl rfl rfl rfl (by simp[Tryz.f170]) ?_
 refine cM aF rfl rfl rfl rfl rfl ?_
 repeat' (first|refine zA rfl ?_|refine aA ?_|refine aJ rfl ?_)
 exact⟨rfl,⟨_,rfl⟩,rfl,rfl⟩
theorem a89 (nx:Nat) (x y z:AV) (n:Int):bJ Tryz.prog 170 [.ptr 0 0,.ptr 1 0] .ret (VB nx x y z n) (fun m' M'=>m'=.ret∧M'.get 0=some (.cells [x,y,z])∧M'.get 1=some (.cells [.int .i64 n])):=by
 refine cQ aF Tryz.func170 rfl (by decide) rfl rfl rfl rfl rfl (by simp[Tryz.f170]) ?_
 refine cM aF rfl rfl rfl rfl rfl ?_
 repeat' (first|refine zA rfl ?_|refine aA ?_|refine aJ rfl ?_)
 exact⟨rfl,⟨_,rfl⟩,rfl,rfl⟩
def getD:bH:={f:=.func 170,cap:=[.ptr 0 0,.ptr 1 0],args:=[],keep:=[(2,.ptr 0 0),(3,.ptr 1 0)]}
abbrev a4t (z:Mt×Int):dG→aI→Prop:=fun e _=>∃x,e=.ret x∧aH 0 x (gmA z)
theorem QQ {M:aI} {x y z:AV} {n:Int} {t:List (Nat×AV)} (h2:AF.get ⟨t,[]⟩ 2=.ptr 0 0) (h3:AF.get ⟨t,[]⟩ 3=.ptr 1 0) (g0:M.get 0=some (.cells [x,y,z])) (g1:M.get 1=some (.cells [.int .i64 n])):
  kP lY M ⟨t,[]⟩ Tryz.f129.results=some (.tup [.agg [x,y,z],.int .i64 n]):=by
 have a1:eS M lY 103 (.ptr 0 0)=some (.agg [x,y,z]):=by
  simp only[eS,g0]
  rfl
 have a2:eS M lY 27 (.ptr 1 0)=some (.int .i64 n):=by
  simp only[eS,g1]
  rfl
 show kP lY M ⟨t,[]⟩ #[.cell 2 103,.cell 3 27]=_
 simp only[kP,wY,qQ,h2,h3,a1,a2]
theorem xG {M:aI} {x y z:AV} {n:Int} {t:List (Nat×AV)} {s:aG} (hs:fM s=(dA,30)) (h:(VB M.next x y z n).le M) (h2:AF.get ⟨t,[]⟩ 2=.ptr 0 0) (h3:AF.get ⟨t,[]⟩ 3=.ptr 1 0):gP Tryz.prog lY Tryz.f129 ⟨t,[]⟩ (a4t (fM s)) [getD] (.pan (nJ 30)) M:=by
 rw[hs]
 refine⟨rfl,170,rfl,bJ.le h (bJ.mono (a54 M.next x y z n 30) ?_)⟩
 rintro m' M' ⟨rfl,g0,g1⟩
 exact⟨_,QQ h2 h3 g0 g1,_,rfl,aH.tup2 sub_zero (aH.of_closed aB)⟩
theorem a0r {M:aI} {m:Mt} {tg:eI} {t:List (Nat×AV)} {s:aG} (hs:fM s=(m,0)) (h:(VB M.next (.int .i64 m.size) (.int .i64 m.mode) (iA m.ch tg) 0).le M) (h2:AF.get ⟨t,[]⟩ 2=.ptr 0 0) (h3:AF.get ⟨t,[]⟩ 3=.ptr 1 0):gP Tryz.prog lY Tryz.f129 ⟨t,[]⟩ (a4t (fM s)) [getD] .ret M:=by
 rw[hs]
 refine⟨rfl,170,rfl,bJ.le h (bJ.mono (a89 M.next _ _ _ 0) ?_)⟩
 rintro m' M' ⟨rfl,g0,g1⟩
 exact⟨_,QQ h2 h3 g0 g1,_,rfl,aH.tup2 (aH.pre (G3 (m:=m) (t:=tg)) (aH.of_closed (iB _))) (aH.of_closed aB)⟩
def GN (a b:Nat) (m:List Nat) (q:aG) (g:Nat):aI:=⟨4,[(0,.cells [.int .i64 (a:Int),.int .i64 (b:Int),iA (nI m) (.tok 3 g)]),(1,.cells [.int .i64 0]),(2,.cells [.str q]),(3,.spare g)]⟩
def GF (c i:Nat):AF:=⟨[(2,.ptr 0 0),(3,.ptr 1 0),(4,.ptr 2 0),(5,.fn (.func 171) [.ptr 2 0] []),(6,.int .i64 (c:Int)),(24,.int .i64 (c:Int)),(25,.int .i64 (i:Int))],[getD]⟩
theorem a2e (s:aG) (hs:s.length < 1000000):aN Tryz.prog 129 [.str s] (gmA (fM s)):=by
 refine aT (aY aR) (DU _) ?_
 refine jE aF Tryz.func129 rfl (by decide) (by simp[Tryz.f129]) ?_
 repeat' (first|refine zA rfl ?_|refine aA ?_|refine aJ rfl ?_)
 refine gY ?_
 refine XR rfl rfl mR ?_
 refine iF rfl rfl rfl rfl [(2,.ptr 0 0),(3,.ptr 1 0)] ?_ ?_
 ·intro p hp
  simp only[List.mem_cons,List.not_mem_nil,or_false] at hp
  rcases hp with rfl|rfl<;>rfl
 refine lT ?_
 refine W.le (g:=⟨[(0,.str s),(2,.ptr 0 0),(3,.ptr 1 0)],[getD]⟩) (N:=⟨2,[(0,.cells a47),(1,.cells [.int .i64 0])]⟩) ?_ ?_ ?_
 ·repeat (refine AF.le_cons rfl ?_)
  exact AF.le_nil rfl
 ·exact aI.le_cons rfl (aI.le_cons rfl (aI.le_nil rfl))
 have stop:∀{q:aG} {l:List Nat} {M:aI} {x y z:AV} {n:Int} {t:List (Nat×AV)},At s l q→bV q=none→(∀a b c m,l=a::b::c::m→c≠m.length)→(VB M.next x y z n).le M→AF.get ⟨t,[]⟩ 2=.ptr 0 0→AF.get ⟨t,[]⟩ 3=.ptr 1 0→gP Tryz.prog lY Tryz.f129 ⟨t,[]⟩ (a4t (fM s)) [getD] (.pan (nJ 30)) M:=
  fun h hg hl=>xG (SB h hg hl)
 have a0:=a6i s
 cases g0:bV s with
 |none=>
  repeat' (first|refine dV 10 aF rfl ?_|refine zA rfl ?_|refine aA ?_|refine aJ rfl ?_)
  refine cU rfl rfl (lI g0 rfl (Nat.le_refl _) hs) ?_ ?_
  ·rintro u N ⟨h,_⟩
   cases h
  ·rintro u N ⟨h,rfl⟩
   cases h
   exact stop a0 g0 (by rintro a b c m h;cases h) (aI.le_cons rfl (aI.le_cons rfl (aI.le_nil rfl))) rfl rfl
 |some p=>
  obtain⟨a,r0⟩:=p
  have a1:=xT a0 g0
  have l0:=(eF g0).1
  repeat' (first|refine dV 10 aF rfl ?_|refine zA rfl ?_|refine aA ?_|refine aJ rfl ?_)
  refine cU rfl rfl (lJ g0 rfl (Nat.le_refl _) hs) ?_ ?_
  rotate_left
  ·rintro u N ⟨h,_⟩
   cases h
  rintro u N ⟨h,rfl⟩
  cases h
  cases g1:bV r0 with
  |none=>
   repeat' (first|refine zA rfl ?_|refine aA ?_|refine aJ rfl ?_)
   refine cU rfl rfl (lI g1 rfl (Nat.le_refl _) (by omega)) ?_ ?_
   ·rintro u N ⟨h,_⟩
    cases h
   ·rintro u N ⟨h,rfl⟩
    cases h
    exact stop a1 g1 (by rintro a b c m h;cases h) (aI.le_cons rfl (aI.le_cons rfl (aI.le_nil rfl))) rfl rfl
  |some p=>
   obtain⟨b,r1⟩:=p
   have a2:=xT a1 g1
   have l1:=(eF g1).1
   repeat' (first|refine zA rfl ?_|refine aA ?_|refine aJ rfl ?_)
   refine cU rfl rfl (lJ g1 rfl (Nat.le_refl _) (by omega)) ?_ ?_
   rotate_left
   ·rintro u N ⟨h,_⟩
    cases h
   rintro u N ⟨h,rfl⟩
   cases h
   cases g2:bV r1 with
   |none=>
    repeat' (first|refine zA rfl ?_|refine aA ?_|refine aJ rfl ?_)
    refine cU rfl rfl (lI g2 rfl (Nat.le_refl _) (by omega)) ?_ ?_
    ·rintro u N ⟨h,_⟩
     cases h
    ·rintro u N ⟨h,rfl⟩
     cases h
     exact stop a2 g2 (by rintro a b c m h;cases h) (aI.le_cons rfl (aI.le_cons rfl (aI.le_nil rfl))) rfl rfl
   |some p=>
    obtain⟨c,r2⟩:=p
    have a3:=xT a2 g2
    have l2:=(eF g2).1
    repeat' (first|refine zA rfl ?_|refine aA ?_|refine aJ rfl ?_)
    refine cU rfl rfl (lJ g2 rfl (Nat.le_refl _) (by omega)) ?_ ?_
    rotate_left
    ·rintro u N ⟨h,_⟩
     cases h
    rintro u N ⟨h,rfl⟩
    cases h
    by_cases hc:16 < c
    ·have d1:decide ((16:Int) < (c:Int))=true:=by simp;omega
     repeat' (first|refine zB rfl d1 ?_|refine zA rfl ?_|refine aA ?_|refine aJ rfl ?_)
     refine fI rfl rfl rfl rfl rfl ?_
     exact xG (T2 a3 hc) (aI.le_cons rfl (aI.le_cons rfl (aI.le_nil rfl))) rfl rfl
    ·have d1:decide ((16:Int) < (c:Int))=false:=by simp;omega
     repeat' (first|refine zB rfl d1 ?_|refine zA rfl ?_|refine aA ?_|refine aJ rfl ?_)
     refine aX c (fun i f N=>∃m q g,m.length=i∧At s ([a,b,c]++m) q∧q.length≤s.length∧N=GN a b m q g∧f=GF c i) (Nat.zero_le _) ⟨[],r2,0,rfl,a3,by omega,rfl,rfl⟩ ((aM.tokM 0 2 rfl rfl (sz':=1) (.inr rfl)).trans (aM.le ?_ (aI.le_cons rfl (aI.le_cons rfl (aI.le_cons rfl (aI.le_cons rfl (aI.le_nil rfl))))))) ?_
     ·unfold GF
      repeat (refine AF.le_cons rfl ?_)
      exact AF.le_nil rfl
     rintro i f N hi ⟨m,q,g,rfl,am,lq,rfl,rfl⟩
     unfold GF
     by_cases h1:m.length < c
     ·have d2:decide ((m.length:Int) < (c:Int))=true:=by simp;omega
      have fi:=aQ (i:=m.length) (by omega)
      have lq2:q.length < 1000000:=by omega
      have hml:m.length < 1000000:=by omega
      cases hg:bV q with
      |none=>
       repeat' (first|refine zB rfl d2 ?_|refine zA rfl ?_|refine aA ?_|refine aJ rfl ?_|refine iJ mixed (.two [2] 0 3 (.two [] 1 3 (.fin [3,4,5,6,7]) (.fin [4,1,5,6,7])) (.fin [4,0,1,5,6,7])) [.R,.R,.P,.E,.P,.E,.R,.E] rfl rfl (by kernel_rfl) ?_|refine sX.mk ?_ ?_)
       all_goals
        refine cU rfl rfl (lI hg rfl (Nat.le_succ _) lq2) ?_ ?_
        ·rintro u N ⟨h,_⟩
         cases h
        ·rintro u N ⟨h,rfl⟩
         cases h
         exact stop am hg (by rintro a' b' c' m' h;simp at h;obtain⟨_,_,rfl,rfl⟩:=h;omega) (aI.le_cons rfl (aI.le_cons rfl (aI.le_nil rfl))) rfl rfl
      |some p=>
       obtain⟨n,r⟩:=p
       have am2:=xT am hg
       have lr:=(eF hg).1
       have eT:AV.sl 1 ((nI (m++[n])).map fun n=>AV.int .i64 n) (.tok 3 (g+1))=.sl 1 (((nI m).map fun n=>AV.int .i64 n)++[.int .i64 (n:Int)]) (.tok 3 (g+1)):=by simp[nI]
       repeat' (first|refine zB rfl d2 ?_|refine zA rfl ?_|refine aA ?_|refine aJ rfl ?_|refine iJ mixed (.two [2] 0 3 (.two [] 1 3 (.fin [3,4,5,6,7]) (.fin [4,1,5,6,7])) (.fin [4,0,1,5,6,7])) [.R,.R,.P,.E,.P,.E,.R,.E] rfl rfl (by kernel_rfl) ?_|refine sX.mk ?_ ?_)
       all_goals
        refine cU rfl rfl (lJ hg rfl (Nat.le_succ _) lq2) ?_ ?_
        rotate_left
        ·rintro u N ⟨h,_⟩
         cases h
        rintro u N ⟨h,rfl⟩
        cases h
        repeat' (first|refine zI rfl fi ?_|refine zA rfl ?_|refine aA ?_|refine aJ rfl ?_|refine zR rfl ?_|refine zP rfl rfl ?_)
        refine⟨h1,_,_,⟨m++[n],r,g+1,by simp,(by simpa using am2),by omega,rfl,rfl⟩,aM.le ?_ ?_⟩
        ·skip
         repeat (refine AF.le_cons rfl ?_)
         exact AF.le_nil rfl
        ·unfold GN iA
         rw[eT]
         exact aI.le_cons rfl (aI.le_cons rfl (aI.le_cons rfl (aI.le_cons rfl (aI.le_nil rfl))))
     ·have d2:decide ((m.length:Int) < (c:Int))=false:=by simp;omega
      have hml:m.length=c:=by omega
      by_cases hq:q=[]
      ·subst hq
       have d3:(!(([]:aG)==[]))=false:=rfl
       have km:=(LJ ⟨a,b,nI m⟩ (by simp;omega)).sub (args:=[Mt.avT ⟨a,b,nI m⟩ (.tok 3 g)]) ⟨G3,trivial⟩
       have he:=X7 am
       cases hm:mV ⟨a,b,nI m⟩
       ·rw[hm] at km
        repeat' (first|refine zB rfl (by first|exact d2|exact d3) ?_|refine zA rfl ?_|refine aA ?_|refine aJ rfl ?_|refine aD rfl km ?_)
        refine fI rfl rfl rfl rfl rfl ?_
        exact xG (he.trans (mE (fun _=>hm))) (aI.le_cons rfl (aI.le_cons rfl (aI.le_nil rfl))) rfl rfl
       ·rw[hm] at km
        repeat' (first|refine zB rfl (by first|exact d2|exact d3) ?_|refine zA rfl ?_|refine aA ?_|refine aJ rfl ?_|refine aD rfl km ?_)
        exact a0r (tg:=.tok 3 g) (he.trans (vN hml.symm hm)) (aI.le_cons rfl (aI.le_cons rfl (aI.le_nil rfl))) rfl rfl
      ·have d3:(!(q==[]))=true:=by simp[hq]
       repeat' (first|refine zB rfl (by first|exact d2|exact d3) ?_|refine zA rfl ?_|refine aA ?_|refine aJ rfl ?_)
       refine fI rfl rfl rfl rfl rfl ?_
       exact xG (T6 am hml.symm hq) (aI.le_cons rfl (aI.le_cons rfl (aI.le_nil rfl))) rfl rfl
def jS (s p:aG):Bool:=decide (p.length≤s.length)&&(s.take p.length==p)
theorem qM (s p:aG):aN Tryz.prog 196 [.str s,.str p] (.bool (jS s p)):=by
 intro M
 refine aC aF Tryz.func196 rfl (by decide) (by simp[Tryz.f196]) ?_
 unfold jS
 by_cases h:p.length≤s.length
 ·have d1:decide ((p.length:Int)≤(s.length:Int))=true:=by simp;omega
  have e1:decide (p.length≤s.length)=true:=by simp[h]
  rw[e1]
  repeat' (first|refine zB rfl d1 ?_|refine zA rfl ?_|refine aA ?_|refine aJ rfl ?_)
  refine q8 aF rfl rfl rfl rfl rfl rfl rfl rfl rfl (Int.le_refl 0) (Int.natCast_nonneg _) (by omega) ?_
  repeat' (first|refine zA rfl ?_|refine aA ?_|refine aJ rfl ?_)
  exact⟨rfl,_,rfl,A9 (by simp),rfl⟩
 ·have d1:decide ((p.length:Int)≤(s.length:Int))=false:=by simp;omega
  have e1:decide (p.length≤s.length)=false:=by simp[h]
  rw[e1]
  repeat' (first|refine zB rfl d1 ?_|refine zA rfl ?_|refine aA ?_|refine aJ rfl ?_)
  exact⟨rfl,_,rfl,rfl,rfl⟩
theorem EW (s p:aG):aN Tryz.prog 230 [.str s,.str p] (.bool (jS s p)):=by
 intro M
 refine aC aF Tryz.func230 rfl (by decide) (by simp[Tryz.f230]) ?_
 repeat' (first|refine zA rfl ?_|refine aA ?_|refine aJ rfl ?_)
 refine eL rfl rfl rfl rfl rfl (qM s p) ?_
 repeat' (first|refine zA rfl ?_|refine aA ?_|refine aJ rfl ?_)
 exact⟨rfl,_,rfl,rfl,rfl⟩
def O7 (s p:aG):AV:=.tup [.str (if jS s p=true then s.drop p.length else s),.bool (jS s p)]
theorem NY (s p:aG):aN Tryz.prog 169 [.str s,.str p] (O7 s p):=by
 intro M
 refine aC aF Tryz.func169 rfl (by decide) (by simp[Tryz.f169]) ?_
 have kp:=qM s p
 unfold O7
 cases h:jS s p
 ·rw[h] at kp
  rw[if_neg (by simp)]
  repeat' (first|refine zA rfl ?_|refine aA ?_|refine aJ rfl ?_|refine aD rfl kp ?_)
  exact⟨rfl,_,rfl,rfl,rfl⟩
 ·rw[h] at kp
  rw[if_pos rfl]
  have hl:p.length≤s.length:=by
   simp[jS] at h
   exact h.1
  have s1:(0:Int)≤(p.length:Int)∧(p.length:Int)≤(s.length:Int)∧(s.length:Int)≤(s.length:Int)∧(s.take (s.length:Int).toNat).drop (p.length:Int).toNat=s.drop p.length:=by
   refine⟨by omega,by omega,Int.le_refl _,?_⟩
   rw[Int.toNat_natCast,Int.toNat_natCast,List.take_length]
  repeat' (first|refine zA rfl ?_|refine aA ?_|refine aJ rfl ?_|refine aD rfl kp ?_|refine i6 aF rfl (s1) ?_)
  exact⟨rfl,_,rfl,rfl,rfl⟩
theorem a4x (s p:aG):aN Tryz.prog 128 [.str s,.str p] (O7 s p):=by
 intro M
 refine aC aF Tryz.func128 rfl (by decide) (by simp[Tryz.f128]) ?_
 have kp:=NY s p
 unfold O7 at kp ⊢
 repeat' (first|refine zA rfl ?_|refine aA ?_|refine aJ rfl ?_|refine aD rfl kp ?_)
 exact⟨rfl,_,rfl,rfl,rfl⟩
theorem x8 (v:aG) (hv:v.length < 1000000):aN Tryz.prog 75 [.str v] (rmA (bW v)):=by
 refine aT (aY aR) (pZ _) ?_
 refine aC aF Tryz.func75 rfl (by decide) (by simp[Tryz.f75]) ?_
 have kc:=a4x v [1]
 cases v with
 |nil=>
  have d1:(([]:aG)==[0])=false:=rfl
  unfold O7 at kc
  repeat' (first|refine zB rfl d1 ?_|refine zA rfl ?_|refine aA ?_|refine aJ rfl ?_|refine aD rfl kc ?_)
  exact⟨rfl,_,rfl,_,rfl,aH.tup3 sub_zero (aH.of_closed aL) (aH.of_closed aB)⟩
 |cons c r=>
  by_cases h0:c=0∧r=[]
  ·obtain⟨rfl,rfl⟩:=h0
   have d1:(([0]:aG)==[0])=true:=rfl
   repeat' (first|refine zB rfl d1 ?_|refine zA rfl ?_|refine aA ?_|refine aJ rfl ?_)
   exact⟨rfl,_,rfl,_,rfl,aH.tup3 sub_zero (aH.of_closed aL) (aH.of_closed aB)⟩
  ·have d1:((c::r:aG)==[0])=false:=by
    rw[beq_eq_false_iff_ne]
    intro h
    cases h
    exact h0 ⟨rfl,rfl⟩
   by_cases h1:c=1
   ·subst h1
    have e:bW (1::r)=((fM r).1,false,(fM r).2):=by
     show (if (1:UInt8)=0∧r=[] then (dA,true,(0:Int)) else if (1:UInt8)=1 then ((fM r).1,false,(fM r).2) else (dA,false,30))=_
     rw[if_neg h0,if_pos rfl]
    have kr:=a2e r (by simp at hv;omega)
    have hp:jS (1::r) [1]=true:=by simp[jS]
    unfold O7 at kc
    rw[if_pos hp,hp] at kc
    rw[e]
    generalize fM r=x at kr
    obtain⟨m,e⟩:=x
    repeat' (first|refine zB rfl d1 ?_|refine zA rfl ?_|refine aA ?_|refine aJ rfl ?_|refine aD rfl kc ?_|refine aD rfl kr ?_)
    exact⟨rfl,_,rfl,_,rfl,aH.of_closed (pZ (m,false,e))⟩
   ·have hp:jS (c::r) [1]=false:=by simp[jS,h1]
    unfold O7 at kc
    rw[if_neg (by rw[hp];simp),hp] at kc
    have e:bW (c::r)=(dA,false,30):=(if_neg h0).trans (if_neg h1)
    rw[e]
    repeat' (first|refine zB rfl d1 ?_|refine zA rfl ?_|refine aA ?_|refine aJ rfl ?_|refine aD rfl kc ?_)
    exact⟨rfl,_,rfl,_,rfl,aH.tup3 sub_zero (aH.of_closed aL) (aH.of_closed aB)⟩
end Go.Proofs.YthnhbmlefiafaaaGreatDoor
namespace Go.Ab
open Go.RowKit
def qI (g:Nat) (e:TypeId) (c:Array Value):cT:=.raw (some g) (.cells c e (0,0)) #[] []
structure l9 (c:Array Value) (bs:List UInt8) (cap:Nat):Prop where
 size:c.size=cap
 le:bs.length≤cap
 at_:∀(i:Nat) (x:UInt8),bs[i]? =some x→c[i]? =some (.int .u8 x.toNat)
theorem CU {μ:Mu} {F:cO} {M:aI} {w w':World} (h:eP μ F M w) {id g b:Nat} {c0:Array Value} {e:TypeId} {W9:Nat×Nat} (hid:μ id=some (.spare (some (b,0)) g)) (h0:w.heap[b]? =some (.cells c0 e W9)) {b':Nat} {o':Obj}
  (hcase:(b'=b∧w6 w b w'∧∃c' fr',o'=.cells c' e fr'∧c'.size=c0.size)∨(w.heap.size≤b'∧Below w.heap.size w w')) (hb':w'.heap[b']? =some o'):
  eB w μ w' (μ.put id (.spare (some (b',0)) (g+1)))∧eP (μ.put id (.spare (some (b',0)) (g+1))) F (M.set id (.raw (some (g+1)) o' #[] [])) w':=by
 have hlt:b < w.heap.size:=(Array.getElem?_eq_some_iff.1 h0).1
 have hput:∀i,i≠id→(μ.put id (.spare (some (b',0)) (g+1))) i=μ i:=fun i hi=>by simp[Mu.put,hi]
 have hputs:(μ.put id (.spare (some (b',0)) (g+1))) id=some (.spare (some (b',0)) (g+1)):=by simp[Mu.put]
 have hsz:w.heap.size≤w'.heap.size:=by
  rcases hcase with ⟨_,hw,_⟩|⟨_,hb⟩
  ·exact Nat.le_of_eq hw.size.symm
  ·exact hb.size
 have hold:∀k,k < w.heap.size→k≠b→w'.heap[k]? =w.heap[k]? :=by
  intro k hk hne
  rcases hcase with ⟨_,hw,_⟩|⟨_,hb⟩
  ·exact hw.other k hne
  ·exact hb.block k hk
 have hownb:∀o,jX μ b o:=fun o=>⟨id,.inr ⟨0,g,hid,Nat.zero_le _⟩⟩
 have hown:∀k o,jX (μ.put id (.spare (some (b',0)) (g+1))) k o→w.heap.size≤k∨jX μ k o:=by
  rintro k o ⟨i,h1|⟨e',g',h1,he⟩⟩
  ·by_cases hi:i=id
   ·subst hi;rw[hputs] at h1;cases h1
   ·rw[hput i hi] at h1;exact .inr ⟨i,.inl h1⟩
  ·by_cases hi:i=id
   ·subst hi
    rw[hputs] at h1
    cases h1
    rcases hcase with ⟨rfl,_⟩|⟨hge,_⟩
    ·exact .inr (hownb o)
    ·exact .inl hge
   ·rw[hput i hi] at h1;exact .inr ⟨i,.inr ⟨e',g',h1,he⟩⟩
 have hev:eB w μ w' (μ.put id (.spare (some (b',0)) (g+1))):=by
  have hstate:w'.os=w.os∧w'.tape=w.tape∧w'.output=w.output:=by
   rcases hcase with ⟨_,hw,_⟩|⟨_,hb⟩
   ·exact⟨hw.os,hw.tape,hw.output⟩
   ·exact⟨hb.os,hb.tape,hb.output⟩
  refine⟨hstate.1,hstate.2.1,hstate.2.2,hsz,?_,?_,?_,fun k o hk ho=>(hown k o ho).resolve_left (by omega)⟩
  ·intro i hi
   by_cases he:i=id
   ·subst he
    exact .inr (.inr ⟨_,g,_,g+1,hid,hputs,Nat.lt_succ_self g⟩)
   ·exact .inl (hput i he)
  ·intro k hk hn
   refine hold k hk ?_
   rintro rfl
   exact hn 0 (hownb 0)
  ·intro k e' c ty fr hk hn hc
   by_cases hkb:k=b
   ·subst hkb
    have he:=hn 0 (hownb 0)
    rw[h0] at hc
    cases hc
    rcases hcase with ⟨rfl,hw,c',fr',rfl,hs⟩|⟨_,hb⟩
    ·exact⟨c',fr',hb',hs,fun o ho=>by omega⟩
    ·exact⟨_,_,(hb.block k hk).trans h0,rfl,fun _ _=>rfl⟩
   ·exact⟨c,fr,(hold k hk hkb).trans hc,rfl,fun _ _=>rfl⟩
 have hfar:∀i k,i≠id→dS μ i k→k≠b:=by
  rintro i k hi hl rfl
  exact hi (h.inj i id k hl (.inr ⟨0,g,hid⟩))
 have hlold:∀i k,dS μ i k→k < w.heap.size:=by
  rintro i k (h1|⟨e,g,h1⟩)
  ·exact h.fit.own k 0 ⟨i,.inl h1⟩
  ·exact h.fit.own k e ⟨i,.inr ⟨e,g,h1,Nat.le_refl _⟩⟩
 have lie:∀i k,dS (μ.put id (.spare (some (b',0)) (g+1))) i k→(i=id∧k=b')∨(i≠id∧dS μ i k):=by
  rintro i k (h1|⟨e',g',h1⟩)
  ·by_cases hi:i=id
   ·subst hi;rw[hputs] at h1;cases h1
   ·rw[hput i hi] at h1;exact .inr ⟨hi,.inl h1⟩
  ·by_cases hi:i=id
   ·subst hi;rw[hputs] at h1;cases h1;exact .inl ⟨rfl,rfl⟩
   ·rw[hput i hi] at h1;exact .inr ⟨hi,.inr ⟨e',g',h1⟩⟩
 have hb'far:∀j,j≠id→¬dS μ j b':=by
  intro j hj hl
  rcases hcase with ⟨rfl,_⟩|⟨hge,_⟩
  ·exact hfar j _ hj hl rfl
  ·have:=hlold j b' hl;omega
 refine⟨hev,?_,?_,?_,?_,?_,?_,?_⟩
 ·intro i
  show _↔i < M.next
  by_cases hi:i=id
  ·subst hi
   rw[hputs]
   exact⟨fun _=>(h.dom i).1 (by rw[hid];simp),fun _=>by simp⟩
  ·rw[hput i hi]
   exact h.dom i
 ·intro i l hl
  rw[aI.get_set] at hl
  split at hl
  ·cases hl
  ·rename_i hi
   obtain⟨b1,c,ty,h1,h2,h3,h4,h5⟩:=h.obj i l hl
   have hlt1:b1 < w.heap.size:=(Array.getElem?_eq_some_iff.1 h2).1
   exact⟨b1,c,ty,(hput i hi).trans h1,(hold b1 hlt1 (hfar i b1 hi (.inl h1))).trans h2,h3,h4,fun i x v hx hv=>(h5 i x v hx hv).evo hev⟩
 ·intro i g' hl
  rw[aI.get_set] at hl
  split at hl
  ·cases hl
  ·rename_i hi
   obtain⟨p,h1,h2⟩:=h.spare i g' hl
   refine⟨p,(hput i hi).trans h1,fun b1 e1 hp=>?_⟩
   obtain⟨c,ty,fr,h3,h4,h5⟩:=h2 b1 e1 hp
   have hlt1:b1 < w.heap.size:=(Array.getElem?_eq_some_iff.1 h3).1
   exact⟨c,ty,fr,(hold b1 hlt1 (hfar i b1 hi (.inr ⟨e1,g',by rw[h1,hp]⟩))).trans h3,h4,h5⟩
 ·intro i j k hi hj
  rcases lie i k hi with ⟨h1,h2⟩|⟨h1,h2⟩<;>rcases lie j k hj with ⟨h3,h4⟩|⟨h3,h4⟩
  ·exact h1.trans h3.symm
  ·exact absurd (h2 ▸ h4) (hb'far j h3)
  ·exact absurd (h4 ▸ h2) (hb'far i h1)
  ·exact h.inj i j k h2 h4
 ·intro k o ho hF
  rcases hown k o ho with h1|h1
  ·have:=h.fit.frm k o hF;omega
  ·exact h.frm k o h1 hF
 ·refine⟨fun k o ho=>?_,fun k o hF=>Nat.lt_of_lt_of_le (h.fit.frm k o hF) hsz⟩
  obtain⟨i,hl⟩:=J5 ho
  rcases lie i k hl with ⟨_,rfl⟩|⟨_,h2⟩
  ·exact (Array.getElem?_eq_some_iff.1 hb').1
  ·exact Nat.lt_of_lt_of_le (hlold i k h2) hsz
 ·intro i gg o vs t hl
  rw[aI.get_set] at hl
  split at hl
  ·rename_i hi
   cases hl
   subst hi
   exact⟨b',hputs,hb',fun _=>.top _⟩
  ·rename_i hi
   obtain⟨b1,h1,h2,h3⟩:=h.raw i gg o vs t hl
   have hlt1:b1 < w.heap.size:=(Array.getElem?_eq_some_iff.1 h2).1
   exact⟨b1,h1.congr (hput i hi),(hold b1 hlt1 (hfar i b1 hi h1.lies)).trans h2,fun i=>(h3 i).evo hev⟩
theorem y1 {P:Program} {τ:Tab} (hτ:TabOK P τ) {t tx e:TypeId} {ti ei xi:TI} (hin:qW P τ t e ti ei) (hsz:ei.size=1) (hxi:aK τ tx=some xi) {o:Oper} {s x:Operand}
  (ho:o.op=.call {callee:=.builtin .append,args:=#[s,x],argTypes:=#[t,tx]}) {ρ:Operand→AV} {M:aI} {id g n cap:Nat} {c:Array Value} {bs ys:List UInt8} (hS:ρ s=.bsl id g n cap) (hn:n=bs.length) (hM:M.get id=some (qI g e c)) (hB:l9 c bs cap)
  (hf:eW xi.k (ρ x)=true) (hX:iU 1 (ρ x)=some (ys.map fJ)) (hb:(n+ys.length)*ei.bytes≤140737488355328) (hlen:n+ys.length≤140737488355328) {Kp:AV→aI→Prop}:
  jQ P o ρ M (fun u M'=>∃cap' c',l9 c' (bs++ys) cap'∧u=.bsl id (g+1) (n+ys.length) cap'∧M'=M.set id (qI (g+1) e c')) Kp:=by
 subst hn
 intro μ F w a hg hr next Q' hnext _
 have hs:=hr s (by simp[ho,Op.operands,Call.operands])
 have hx:=hr x (by simp[ho,Op.operands,Call.operands])
 rw[hS] at hs
 obtain⟨b,k1,hb2,_⟩:=hg.raw id _ _ _ _ hM
 have hbm:μ id=some (.spare (some (b,0)) g):=k1
 have hv:a.eval s=.slice (some ⟨b,0,none⟩) bs.length cap:=by
  generalize a.eval s=u at hs
  cases hs with
  |bsl _ _ _ _ _ h1 h=>
   rcases h with h|⟨p,g',h,hgg,hv⟩
   ·rw[hbm] at h;cases h
   ·rw[hbm] at h
    cases h
    exact hv rfl b rfl
 obtain⟨hsy,news,hsrc,hnew⟩:=vP hτ hxi hf hX hx
 obtain⟨ft,dt,zt,HT⟩:=TI.spec hτ hin.tl
 obtain⟨fe,de,ze,HE⟩:=TI.spec hτ hin.el
 have hfi:=HT.fits
 rw[hin.tk] at hfi
 have hdd:dt=.slice e:=by
  cases dt<;>simp[TK.fits] at hfi
  rw[hfi]
 subst hdd
 have hfs:fe.size=1:=by rw[HE.size,hsz]
 have hnl:news.length=ys.length:=by have:=hsrc.newsLen;simpa using this
 have hsrc':Src P fe.size tx (a.eval x) ys.length news w:=by rw[hfs];simpa using hsrc
 have hnews:∀(p:Nat) (z:UInt8),ys[p]? =some z→news[p]? =some (.int .u8 z.toNat):=by
  intro p z hz
  have hp:p < news.length:=by rw[hnl];exact (List.getElem?_eq_some_iff.1 hz).1
  have h1:=hnew p (fJ z) news[p] (by rw[rO,List.getElem?_map,hz];rfl) (List.getElem?_eq_getElem hp)
  rw[List.getElem?_eq_getElem hp]
  generalize news[p]=u at h1
  cases h1
  rfl
 have hex:∀v w',(Builtin.append_ #[t,tx] o.type #[a.eval s,a.eval x]).run P w=.ok v w'→(execOp a.eval o).run P w=.ok (.value v) w':=by
  intro v w' h
  simp[execOp,ho,resolve,invoke,builtin,h]
 have hcs:bs.length≤c.size:=by rw[hB.size];exact hB.le
 unfold Oper.wp
 by_cases hroom:bs.length+ys.length≤cap
 ·have hfl:bs.length+news.length≤c.size:=by rw[hnl,hB.size];exact hroom
  have hrun:=run_append_room_src (P:=P) w t tx o.type e fe HT.und HE.info b 0 bs.length cap (a.eval x) ys.length news hsrc' hroom (fun j hj=>by
    rw[hfs,cR hb2,Nat.zero_add,Nat.mul_one,Array.getElem?_eq_getElem (by omega)];rfl) (fun j hj=>by simp[World.frozen?,hb2])
  rw[hfs,Nat.zero_add,Nat.mul_one] at hrun
  obtain⟨hw,c',hc',hs',hget⟩:=gL b news bs.length c e (0,0) w hb2 hfl
  obtain⟨he,hG⟩:=CU hg hbm hb2 (.inl ⟨rfl,hw,c',(0,0),rfl,hs'⟩) hc'
  rw[hv] at hex
  rw[hex _ _ hrun]
  refine hnext _ _ _ _ _ he hG (.bsl _ _ _ _ _ rfl (.inr ⟨some (b,0),g+1,by simp[Mu.put],Nat.le_refl _,fun _ b1 hb1=>by cases hb1;rfl⟩)) ⟨cap,c',⟨hs'.trans hB.size,by simpa using hroom,?_⟩,rfl,rfl⟩
  intro i z hz
  rw[hget]
  by_cases h1:i < bs.length
  ·rw[if_neg (by omega)]
   rw[List.getElem?_append_left h1] at hz
   exact hB.at_ i z hz
  ·rw[List.getElem?_append_right (by omega)] at hz
   have hlt:=(List.getElem?_eq_some_iff.1 hz).1
   rw[if_pos ⟨by omega,by omega⟩]
   exact hnews _ z hz
 ·have hgrow:cap < bs.length+ys.length:=by omega
  let olds:=c.toList.take bs.length
  have hol:olds.length=bs.length:=by simp[olds];omega
  have hold:(Builtin.firstCells fe.size bs.length (.slice (some ⟨b,0,none⟩) bs.length cap)).run P w.drew=.ok olds.toArray w.drew:=by
   rw[hfs]
   refine run_firstCells_some w.drew 1 bs.length _ _ _ olds (by rw[hol,Nat.mul_one]) (fun j u hu=>?_)
   have hj:olds[j]? =c[j]? :=by
    have:j < bs.length:=by rw[←hol];exact (List.getElem?_eq_some_iff.1 hu).1
    simp only[olds,List.getElem?_take,if_pos this,Array.getElem?_toList]
   rw[hj] at hu
   have:=cR (o:=0+j) hb2
   rw[Addr.add_lit]
   show w.cell? ⟨b,0+j,none⟩=some u
   rw[this,Nat.zero_add]
   exact hu
  have hfit:Builtin.nextslicecap (bs.length+ys.length) cap*fe.bytes≤281474976710656:=by
   rw[HE.bytes]
   exact growslice_fits hgrow hb
  have hrun:=run_append_grow_src (P:=P) w t tx o.type e fe ze HT.und HE.info HE.zero (some ⟨b,0,none⟩) bs.length cap olds hold (a.eval x) ys.length news hsrc' hgrow (by omega) hfit
  have hge:=grownCap_ge w (bs.length+ys.length) cap e
  generalize hcap:grownCap w (bs.length+ys.length) cap e=cap' at hrun hge
  have hzs:ze.cells.size=1:=by
   have:=(bZ HE.cells).1
   simp only[Array.length_toList] at this
   rw[this,HE.len,hsz]
  have hc's:((olds++news).toArray++Builtin.zeroCells ze.cells (cap' - (bs.length+ys.length))).size=cap':=by
   simp only[Array.size_append,List.size_toArray,List.length_append,hol,hnl,size_zeroCells,hzs]
   omega
  have hbelow:Below w.heap.size w (w.drew.alloc (.cells ((olds++news).toArray++Builtin.zeroCells ze.cells (cap' - (bs.length+ys.length))) e)):=⟨rfl,rfl,rfl,by simp[World.alloc],fun k hk=>heap_alloc_old w.drew _ hk⟩
  obtain⟨he,hG⟩:=CU hg hbm hb2 (.inr ⟨Nat.le_refl _,hbelow⟩) (heap_alloc_new w.drew _)
  rw[hv] at hex
  rw[hex _ _ hrun]
  refine hnext _ _ _ _ _ he hG (.bsl _ _ _ _ _ rfl (.inr ⟨some (w.heap.size,0),g+1,by simp[Mu.put],Nat.le_refl _,fun _ b1 hb1=>by cases hb1;rfl⟩)) ⟨cap',_,⟨hc's,by simpa using hge,?_⟩,rfl,rfl⟩
  intro i z hz
  have hi:i < (olds++news).length:=by
   have:=(List.getElem?_eq_some_iff.1 hz).1
   rw[List.length_append] at this ⊢
   omega
  rw[Array.getElem?_append_left (by simpa using hi)]
  simp only[List.getElem?_toArray]
  by_cases h1:i < bs.length
  ·rw[List.getElem?_append_left (by omega)]
   rw[List.getElem?_append_left h1] at hz
   simp only[olds,List.getElem?_take,if_pos h1,Array.getElem?_toList]
   exact hB.at_ i z hz
  ·rw[List.getElem?_append_right (by omega),hol]
   rw[List.getElem?_append_right (by omega)] at hz
   exact hnews _ z hz
theorem MM {μ:Mu} {F:cO} {M:aI} {w w':World} (h:eP μ F M w) (hb:Below w.heap.size w w') {o:Obj} {vs:Array Value} {t:List (Nat×AV)} {b:Nat} (hnew:w.heap.size≤b)
  (hc:w'.heap[b]? =some o) (hr:∀i,bR μ F w ((aK t i).getD .top) (vs.getD i undef)):
  eB w μ w' (μ.put M.next (.spare (some (b,0)) 0))∧eP (μ.put M.next (.spare (some (b,0)) 0)) F (M.push (.raw (some 0) o vs t)) w':=by
 have hn:=mL h
 have hown:∀k o,jX (μ.put M.next (.spare (some (b,0)) 0)) k o→k=b∨jX μ k o:=by
  rintro k o ⟨id,h1|⟨e,g,h1,he⟩⟩
  ·unfold Mu.put at h1
   split at h1
   ·cases h1
   ·exact .inr ⟨id,.inl h1⟩
  ·unfold Mu.put at h1
   split at h1
   ·cases h1;exact .inl rfl
   ·exact .inr ⟨id,.inr ⟨e,g,h1,he⟩⟩
 have hev:eB w μ w' (μ.put M.next (.spare (some (b,0)) 0)):=eB.push hb hn fun k o ho hk=>by
  rcases hown k o ho with rfl|ho
  ·omega
  ·exact ho
 refine⟨hev,?_,?_,?_,?_,?_,?_,?_⟩
 ·intro id
  have:=h.dom id
  unfold Mu.put aI.push
  simp only
  split
  ·rename_i e;subst e;simp
  ·rename_i e
   rw[this]
   omega
 ·intro id l' hl
  rw[aI.get_push] at hl
  split at hl
  ·cases hl
  ·rename_i e
   obtain⟨b',c',ty',h1,h2,h3,h4,h5⟩:=h.obj id l' hl
   have hlt:b' < w.heap.size:=(Array.getElem?_eq_some_iff.1 h2).1
   exact⟨b',c',ty',by simp[Mu.put,e,h1],(hb.block b' hlt).trans h2,h3,h4,fun i x v hx hv=>(h5 i x v hx hv).evo hev⟩
 ·intro id g hl
  rw[aI.get_push] at hl
  split at hl
  ·cases hl
  ·rename_i e
   obtain⟨p,h1,h2⟩:=h.spare id g hl
   refine⟨p,by simp[Mu.put,e,h1],fun b' e' hp=>?_⟩
   obtain⟨c',ty',fr,h3,h4,h5⟩:=h2 b' e' hp
   have hlt:b' < w.heap.size:=(Array.getElem?_eq_some_iff.1 h3).1
   exact⟨c',ty',fr,(hb.block b' hlt).trans h3,h4,h5⟩
 ·have lie:∀i k,dS (μ.put M.next (.spare (some (b,0)) 0)) i k→(i=M.next∧k=b)∨dS μ i k:=by
   rintro i k (h1|⟨e,g,h1⟩)
   ·unfold Mu.put at h1
    split at h1
    ·cases h1
    ·exact .inr (.inl h1)
   ·unfold Mu.put at h1
    split at h1
    ·cases h1;exact .inl ⟨by assumption,rfl⟩
    ·exact .inr (.inr ⟨e,g,h1⟩)
  have old:∀i k,dS μ i k→k < w.heap.size:=by
   rintro i k (h1|⟨e,g,h1⟩)
   ·exact h.fit.own k 0 ⟨i,.inl h1⟩
   ·exact h.fit.own k e ⟨i,.inr ⟨e,g,h1,Nat.le_refl _⟩⟩
  intro i j k hi hj
  rcases lie i k hi with ⟨h1,h2⟩|h1<;>rcases lie j k hj with ⟨h3,h4⟩|h3
  ·exact h1.trans h3.symm
  ·have:=old j k h3;omega
  ·have:=old i k h1;omega
  ·exact h.inj i j k h1 h3
 ·intro k o ho hF
  rcases hown k o ho with rfl|ho
  ·have:=h.fit.frm k o hF;omega
  ·exact h.frm k o ho hF
 ·refine⟨fun k o ho=>?_,fun k o hF=>Nat.lt_of_lt_of_le (h.fit.frm k o hF) hb.size⟩
  rcases hown k o ho with rfl|ho
  ·exact (Array.getElem?_eq_some_iff.1 hc).1
  ·exact Nat.lt_of_lt_of_le (h.fit.own k o ho) hb.size
 ·intro id gg o' vs' t' hl
  rw[aI.get_push] at hl
  split at hl
  ·rename_i e
   cases hl
   exact⟨b,by simp[mM,Mu.put,e],hc,fun i=>(hr i).evo hev⟩
  ·rename_i e
   obtain⟨b',h1,h2,h3⟩:=h.raw id gg o' vs' t' hl
   have hlt:b' < w.heap.size:=(Array.getElem?_eq_some_iff.1 h2).1
   exact⟨b',h1.congr (by simp[Mu.put,e]),(hb.block b' hlt).trans h2,fun i=>(h3 i).evo hev⟩
theorem wW {P:Program} {τ:Tab} (hτ:TabOK P τ) {t tx e:TypeId} {ti ei xi:TI} (hin:qW P τ t e ti ei) (hsz:ei.size=1) (hxi:aK τ tx=some xi) {o:Oper} {s x:Operand}
  (ho:o.op=.call {callee:=.builtin .append,args:=#[s,x],argTypes:=#[t,tx]}) {ρ:Operand→AV} {M:aI} {sz:Nat} {ys:List UInt8} (hS:ρ s=.sl sz [] .full) (hne:ys≠[])
  (hf:eW xi.k (ρ x)=true) (hX:iU 1 (ρ x)=some (ys.map fJ)) (hb:ys.length*ei.bytes≤140737488355328) (hlen:ys.length≤140737488355328) {Kp:AV→aI→Prop}:
  jQ P o ρ M (fun u M'=>∃cap' c',l9 c' ys cap'∧u=.bsl M.next 0 ys.length cap'∧M'=M.push (qI 0 e c')) Kp:=by
 intro μ F w a hg hr next Q' hnext _
 have hs:=hr s (by simp[ho,Op.operands,Call.operands])
 have hx:=hr x (by simp[ho,Op.operands,Call.operands])
 rw[hS] at hs
 obtain⟨A,cap,b,off,vals,hv,_,_,_,_,htag⟩:=hs.sl_flat
 have htag':cap=0:=htag
 subst htag'
 obtain⟨hsy,news,hsrc,hnew⟩:=vP hτ hxi hf hX hx
 obtain⟨ft,dt,zt,HT⟩:=TI.spec hτ hin.tl
 obtain⟨fe,de,ze,HE⟩:=TI.spec hτ hin.el
 have hfi:=HT.fits
 rw[hin.tk] at hfi
 have hdd:dt=.slice e:=by
  cases dt<;>simp[TK.fits] at hfi
  rw[hfi]
 subst hdd
 have hfs:fe.size=1:=by rw[HE.size,hsz]
 have hnl:news.length=ys.length:=by have:=hsrc.newsLen;simpa using this
 have hsrc':Src P fe.size tx (a.eval x) ys.length news w:=by rw[hfs];simpa using hsrc
 have hnews:∀(p:Nat) (z:UInt8),ys[p]? =some z→news[p]? =some (.int .u8 z.toNat):=by
  intro p z hz
  have hp:p < news.length:=by rw[hnl];exact (List.getElem?_eq_some_iff.1 hz).1
  have h1:=hnew p (fJ z) news[p] (by rw[rO,List.getElem?_map,hz];rfl) (List.getElem?_eq_getElem hp)
  rw[List.getElem?_eq_getElem hp]
  generalize news[p]=u at h1
  cases h1
  rfl
 have hex:∀v w',(Builtin.append_ #[t,tx] o.type #[a.eval s,a.eval x]).run P w=.ok v w'→(execOp a.eval o).run P w=.ok (.value v) w':=by
  intro v w' h
  simp[execOp,ho,resolve,invoke,builtin,h]
 unfold Oper.wp
 have hyl:0 < ys.length:=List.length_pos_iff.2 hne
 have hgrow:0 < 0+ys.length:=by omega
 have hold:(Builtin.firstCells fe.size 0 (.slice A 0 0)).run P w.drew=.ok (([]:List Value)).toArray w.drew:=by
  cases A<;>simp[Builtin.firstCells,loadCells,loadCellsFrom]
 have hfit:Builtin.nextslicecap (0+ys.length) 0*fe.bytes≤281474976710656:=by
  rw[HE.bytes]
  exact growslice_fits hgrow (by simpa using hb)
 have hrun:=run_append_grow_src (P:=P) w t tx o.type e fe ze HT.und HE.info HE.zero A 0 0 [] hold (a.eval x) ys.length news hsrc' hgrow (by omega) hfit
 have hge:=grownCap_ge w (0+ys.length) 0 e
 generalize hcap:grownCap w (0+ys.length) 0 e=cap' at hrun hge
 rw[Nat.zero_add,List.nil_append] at hrun
 rw[Nat.zero_add] at hge
 have hzs:ze.cells.size=1:=by
  have:=(bZ HE.cells).1
  simp only[Array.length_toList] at this
  rw[this,HE.len,hsz]
 have hc's:(news.toArray++Builtin.zeroCells ze.cells (cap' - ys.length)).size=cap':=by
  simp only[Array.size_append,List.size_toArray,hnl,size_zeroCells,hzs]
  omega
 have hbelow:Below w.heap.size w (w.drew.alloc (.cells (news.toArray++Builtin.zeroCells ze.cells (cap' - ys.length)) e)):=⟨rfl,rfl,rfl,by simp[World.alloc],fun k hk=>heap_alloc_old w.drew _ hk⟩
 obtain⟨he,hG⟩:=MM hg hbelow (vs:=#[]) (t:=[]) (Nat.le_refl _) (heap_alloc_new w.drew _) (fun i=>.top _)
 rw[hv] at hex
 rw[hex _ _ hrun]
 refine hnext _ _ _ _ _ he hG (.bsl _ _ _ _ _ rfl (.inr ⟨some (w.heap.size,0),0,by simp[Mu.put],Nat.le_refl _,fun _ b1 hb1=>by cases hb1;rfl⟩)) ⟨cap',_,⟨hc's,hge,?_⟩,rfl,rfl⟩
 intro i z hz
 have hi:i < news.length:=by rw[hnl];exact (List.getElem?_eq_some_iff.1 hz).1
 rw[Array.getElem?_append_left (by simpa using hi)]
 simp only[List.getElem?_toArray]
 exact hnews i z hz
theorem a0f {μ:Mu} {F:cO} {M:aI} {w:World} (hg:eP μ F M w) {id g n cap:Nat} {e:TypeId} {c:Array Value} (hM:M.get id=some (qI g e c)) {v:Value} (hr:bR μ F w (.bsl id g n cap) v):
  ∃b,μ id=some (.spare (some (b,0)) g)∧w.heap[b]? =some (.cells c e (0,0))∧v=.slice (some ⟨b,0,none⟩) n cap:=by
 obtain⟨b,k1,h2,_⟩:=hg.raw id _ _ _ _ hM
 have h1:μ id=some (.spare (some (b,0)) g):=k1
 refine⟨b,h1,h2,?_⟩
 cases hr with
 |bsl _ _ _ _ _ _ h=>
  rcases h with h|⟨p,g',h,_,hv⟩
  ·rw[h1] at h;cases h
  ·rw[h1] at h
   cases h
   exact hv rfl b rfl
end Go.Ab
namespace Go.Ab
open Go.RowKit Go.Shelf Go.Proofs
section
variable {P:Program} {ρ:Ren}
theorem zO {μ:Mu} {F:cO} {w:World} {id b:Nat} {vs:Array Value} (hb:μ id=some (.at b)) (h:dB μ F w [.ptr id 0] vs):vs=#[.pointer (some ⟨b,0,none⟩)]:=by
 obtain⟨hs,hr⟩:=h
 have hs':vs.size=1:=hs
 obtain⟨v,rfl⟩:∃v,vs=#[v]:=⟨vs[0],by
  apply Array.ext
  ·simpa using hs'
  ·intro i h1 h2
   have:i=0:=by simp at h2;omega
   subst this
   rfl⟩
 have:=hr 0 (.ptr id 0) v rfl rfl
 cases this with
 |ptr _ _ _ _ _ hv=>rw[hv b hb]
def z7 (T:TypeId):cT:=.raw none (.cells #[.pointer none,.slice none 0 0] T (0,0)) #[] []
theorem a1v (L:Lays.n240 P ρ) (X:Builder.X72 P ρ) (hE:jU P (ρ.f 240)) {M:aI} {id:Nat} (hM:M.get id=some (z7 (ρ.t 72))):
  aS P (ρ.f 240) [.ptr id 0] M fun e N=>e=.ret (.tup [])∧N=M.set id (.cells [.ptr id 0,.sl 1 [] .full]):=by
 refine⟨hE,fun μ F w vs hg hv=>?_⟩
 obtain⟨b,hb,hc,_⟩:=hg.raw id _ _ _ _ hM
 have hb':μ id=some (.at b):=hb
 obtain rfl:=zO hb' hv
 have hcell:w.cell? ⟨b,0,none⟩=some (.pointer none):=by rw[cR hc];rfl
 refine (Any.Builder_copyCheck_fresh L X b w hcell (by simp[World.shape?,hc]) (by simp[World.frozen?,hc])).mono ?_
 rintro e w' ⟨rfl,rfl⟩
 have hset:(w.setCell ⟨b,0,none⟩ (.pointer (some ⟨b,0,none⟩))).heap[b]? =some (.cells #[.pointer (some ⟨b,0,none⟩),.slice none 0 0] (ρ.t 72) (0,0)):=by
  simp only[World.setCell,Array.getElem?_modify,hc]
  simp
 have hw:w6 w b (w.setCell ⟨b,0,none⟩ (.pointer (some ⟨b,0,none⟩))):=⟨rfl,rfl,rfl,by simp[World.setCell],fun k hk=>Below.heap_setCell w _ _ k hk⟩
 obtain⟨he,hG⟩:=mK hg hb' hc hw (l:=[.ptr id 0,.sl 1 [] .full]) hset rfl rfl (by
   intro i v hi
   match i,hi with
   |0,hi=>simp at hi;subst hi;rfl
   |1,hi=>simp at hi;subst hi;rfl
   |i+2,hi=>simp at hi) (by
   intro i x v hx hi
   match i,hx,hi with
   |0,hx,hi=>
    simp at hx hi
    subst hx;subst hi
    exact .ptr _ _ _ rfl (by rw[hb'];simp) (fun b' hb''=>by rw[hb'] at hb'';cases hb'';rfl)
   |1,hx,hi=>
    simp at hx hi
    subst hx;subst hi
    exact x9 μ F w (x:=.sl 1 [] .full) rfl
   |i+2,hx,hi=>simp at hx)
 exact⟨μ,_,he,hG,.tup [],.tup _ _ rfl (by simp),rfl,rfl⟩
theorem UM (L:Lays.n240 P ρ) (X:Builder.X72 P ρ) (hE:jU P (ρ.f 240)) {M:aI} {id:Nat} {x:AV} (hM:M.get id=some (.cells [.ptr id 0,x])):
  aS P (ρ.f 240) [.ptr id 0] M fun e N=>e=.ret (.tup [])∧N=M:=by
 refine⟨hE,fun μ F w vs hg hv=>?_⟩
 obtain⟨b,c,ty,hb,hc,hs,_,hr⟩:=hg.obj id _ hM
 obtain rfl:=zO hb hv
 have hlt:0 < c.size:=by rw[hs];simp
 have h0:c[0]? =some c[0]:=Array.getElem?_eq_getElem hlt
 have hp:=hr 0 _ _ rfl h0
 have hcell:w.cell? ⟨b,0,none⟩=some (.pointer (some ⟨b,0,none⟩)):=by
  rw[cR hc,h0]
  cases hp with
  |ptr _ _ _ _ _ hv=>rw[hv b hb]
 refine (Any.Builder_copyCheck_used L X b w hcell).mono ?_
 rintro e w' ⟨rfl,rfl⟩
 exact⟨μ,M,eB.refl _ _,hg,.tup [],.tup _ _ rfl (by simp),rfl,rfl⟩
theorem a30 {μ:Mu} {F:cO} {M:aI} {w w':World} (h:eP μ F M w) {id g b:Nat} (hid:μ id=some (.spare (some (b,0)) g)) {c:Array Value} {ty:TypeId} {fr fr':Nat×Nat}
  (h0:w.heap[b]? =some (.cells c ty fr)) (hw:w6 w b w') (h1:w'.heap[b]? =some (.cells c ty fr')):eB w μ w' (μ.put id .dead)∧eP (μ.put id .dead) F (M.drop id) w':=by
 have hlt:id < M.next:=(h.dom id).1 (by rw[hid];simp)
 have hput:∀i,i≠id→(μ.put id .dead) i=μ i:=fun i hi=>by simp[Mu.put,hi]
 have hputs:(μ.put id .dead) id=some .dead:=by simp[Mu.put]
 have hownb:∀o,jX μ b o:=fun o=>⟨id,.inr ⟨0,g,hid,Nat.zero_le _⟩⟩
 have hlies:∀i k,dS (μ.put id .dead) i k→i≠id∧dS μ i k:=by
  rintro i k (h1|⟨e,g,h1⟩)
  ·by_cases hi:i=id
   ·subst hi;rw[hputs] at h1;cases h1
   ·rw[hput i hi] at h1;exact⟨hi,.inl h1⟩
  ·by_cases hi:i=id
   ·subst hi;rw[hputs] at h1;cases h1
   ·rw[hput i hi] at h1;exact⟨hi,.inr ⟨e,g,h1⟩⟩
 have hown:∀k o,jX (μ.put id .dead) k o→jX μ k o:=by
  rintro k o ⟨i,h1|⟨e,g,h1,he⟩⟩
  ·by_cases hi:i=id
   ·subst hi;rw[hputs] at h1;cases h1
   ·rw[hput i hi] at h1;exact⟨i,.inl h1⟩
  ·by_cases hi:i=id
   ·subst hi;rw[hputs] at h1;cases h1
   ·rw[hput i hi] at h1;exact⟨i,.inr ⟨e,g,h1,he⟩⟩
 have hev:eB w μ w' (μ.put id .dead):=by
  refine⟨hw.os,hw.tape,hw.output,Nat.le_of_eq hw.size.symm,?_,?_,?_,fun k o _ ho=>hown k o ho⟩
  ·intro i hi
   by_cases he:i=id
   ·subst he;exact .inr (.inl hputs)
   ·exact .inl (hput i he)
  ·intro k hk hn
   refine hw.other k ?_
   rintro rfl
   exact hn 0 (hownb 0)
  ·intro k e' c' ty' f' hk hn hc
   by_cases hkb:k=b
   ·subst hkb
    rw[h0] at hc
    cases hc
    exact⟨c,fr',h1,rfl,fun _ _=>rfl⟩
   ·exact⟨c',f',(hw.other k hkb).trans hc,rfl,fun _ _=>rfl⟩
 have hfar:∀i k,i≠id→dS μ i k→k≠b:=by
  rintro i k hi hl rfl
  exact hi (h.inj i id k hl (.inr ⟨0,g,hid⟩))
 refine⟨hev,{dom:=?_,obj:=?_,spare:=?_,inj:=fun i j k hi hj=>h.inj i j k (hlies i k hi).2 (hlies j k hj).2,frm:=fun k o ho=>h.frm k o (hown k o ho),fit:=⟨fun k o ho=>by rw[hw.size];exact h.fit.own k o (hown k o ho),fun k o hF=>by rw[hw.size];exact h.fit.frm k o hF⟩,raw:=?_}⟩
 ·intro i
  show _↔i < M.next
  by_cases hi:i=id
  ·subst hi;rw[hputs];simp[hlt]
  ·rw[hput i hi];exact h.dom i
 ·intro i l hl
  rw[aI.get_drop] at hl
  split at hl
  ·cases hl
  ·rename_i hi
   obtain⟨b1,c1,ty1,a1,a2,a3,a4,a5⟩:=h.obj i l hl
   exact⟨b1,c1,ty1,(hput i hi).trans a1,(hw.other b1 (hfar i b1 hi (.inl a1))).trans a2,a3,a4,fun i x v hx hv=>(a5 i x v hx hv).evo hev⟩
 ·intro i g' hl
  rw[aI.get_drop] at hl
  split at hl
  ·cases hl
  ·rename_i hi
   obtain⟨p,a1,a2⟩:=h.spare i g' hl
   refine⟨p,(hput i hi).trans a1,fun b1 e1 hp=>?_⟩
   obtain⟨c1,ty1,f1,a3,a4,a5⟩:=a2 b1 e1 hp
   exact⟨c1,ty1,f1,(hw.other b1 (hfar i b1 hi (.inr ⟨e1,g',by rw[a1,hp]⟩))).trans a3,a4,a5⟩
 ·intro i gg o vs t hl
  rw[aI.get_drop] at hl
  split at hl
  ·cases hl
  ·rename_i hi
   obtain⟨b1,a1,a2,a3⟩:=h.raw i gg o vs t hl
   exact⟨b1,a1.congr (hput i hi),(hw.other b1 (hfar i b1 hi a1.lies)).trans a2,fun i=>(a3 i).evo hev⟩
theorem NO (L:Lays.n169 P ρ) (X:Builder.Extra P ρ) (b g cap:Nat) (cur:Array Value) (l:List UInt8) (w:World) (hc:w.cell? ⟨b,1,none⟩=some (.slice (some ⟨g,0,none⟩) l.length cap))
  (hg:w.heap[g]? =some (.cells cur (ρ.t 5) (0,0))) (h0:l≠[]) (hcap:l.length≤cap) (hn:l.length≤cur.size) (h63:l.length≤9223372036854775807) (hcell:∀(j:Nat) (x:UInt8),l[j]? =some x→cur[j]? =some (.int .u8 x.toNat)):
  Calls P (ρ.f 169) #[.pointer (some ⟨b,0,none⟩)] w fun e w'=>e=.returned (.string ⟨l.toArray⟩)∧w'=w.drew.freeze ⟨g,0,none⟩ l.length:=by
 have hl0:0 < l.length:=List.length_pos_iff.2 h0
 have c1:w.drew.cell? ⟨b,1,none⟩=some (.slice (some ⟨g,0,none⟩) l.length cap):=hc
 have hSD:(Builtin.unsafeSliceData_ #[(ρ.t 37)] (ρ.t 127) #[.slice (some ⟨g,0,none⟩) l.length cap]).run P w.drew=.ok (.pointer (some ⟨g,0,none⟩)) w.drew:=
  Lib.run_unsafeSliceData_row _ _ _ _ _ _ (by omega)
 have hUS:(Builtin.unsafeString_ #[(ρ.t 127),(ρ.t 3)] (ρ.t 9) #[.pointer (some ⟨g,0,none⟩),.int .i64 l.length]).run P w.drew=.ok (.string ⟨l.toArray⟩) (w.drew.freeze ⟨g,0,none⟩ l.length):=by
  refine Lib.run_unsafeString_row w.drew (ρ.t 127) (ρ.t 3) (ρ.t 9) (ρ.t 5) L.t127 X.cellsByte g cur.size (by have hg':w.drew.heap[g]? =some (.cells cur (ρ.t 5) (0,0)):=hg;simp[World.shape?,hg']) l h0 hn h63 ?_
  intro j x hx
  rw[Addr.add_lit,show w.drew.cell? ⟨g,0+j,none⟩=w.cell? ⟨g,0+j,none⟩ from rfl,cR hg,Nat.zero_add]
  exact hcell j x hx
 have mixed:=L.mixed
 have t72:=L.t72;have a72:=L.a72;have z72:=L.z72;have v72:=L.v72;have u72:=run_underlying L.t72
 have t70:=L.t70;have a70:=L.a70;have z70:=L.z70;have v70:=L.v70;have u70:=run_underlying L.t70
 have t37:=L.t37;have a37:=L.a37;have z37:=L.z37;have v37:=L.v37;have u37:=run_underlying L.t37
 have t127:=L.t127;have a127:=L.a127;have z127:=L.z127;have v127:=L.v127;have u127:=run_underlying L.t127
 have t3:=L.t3;have a3:=L.a3;have z3:=L.z3;have v3:=L.v3;have u3:=run_underlying L.t3
 have t9:=L.t9;have a9:=L.a9;have z9:=L.z9;have v9:=L.v9;have u9:=run_underlying L.t9
 have t5:=X.t5;have a5:=X.a5;have z5:=X.z5;have v5:=X.v5;have u5:=run_underlying X.t5
 go_enter L.f169,Body.n169_ntmps ρ
 go_wp2
 go_region_o
 all_goals (go_wp2;go_ret;exact⟨rfl,rfl⟩)
theorem a2p (L:Lays.n169 P ρ) (X:Builder.Extra P ρ) (hE:jU P (ρ.f 169)) {M:aI} {id k g cap:Nat} {x:AV} {c:Array Value} {bs:List UInt8} (hM:M.get id=some (.cells [x,.bsl k g bs.length cap]))
  (hK:M.get k=some (qI g (ρ.t 5) c)) (hB:l9 c bs cap) (h0:bs≠[]) (h63:bs.length≤9223372036854775807):
  aS P (ρ.f 169) [.ptr id 0] M fun e N=>e=.ret (.str bs)∧N=M.drop k:=by
 refine⟨hE,fun μ F w vs hg hv=>?_⟩
 obtain⟨b,c0,ty,hb,hc,hs,_,hr⟩:=hg.obj id _ hM
 obtain rfl:=zO hb hv
 have hlt:1 < c0.size:=by rw[hs];simp
 have h1:c0[1]? =some c0[1]:=Array.getElem?_eq_getElem hlt
 obtain⟨q,k1,k2,k3⟩:=a0f hg hK (hr 1 _ _ rfl h1)
 refine (NO L X b q cap c bs w (by rw[cR hc,h1,k3]) k2 h0 hB.le (by rw[hB.size];exact hB.le) h63 hB.at_).mono ?_
 rintro e w' ⟨rfl,rfl⟩
 have hn:bs.length≠0:=by simpa using h0
 have hf:(w.drew.freeze ⟨q,0,none⟩ bs.length).heap[q]? =some (.cells c (ρ.t 5) (0,0+bs.length)):=by
  have k2':w.drew.heap[q]? =some (.cells c (ρ.t 5) (0,0)):=k2
  unfold World.freeze
  rw[if_neg hn]
  simp only[Array.getElem?_modify,k2']
  simp
 have hw:w6 w q (w.drew.freeze ⟨q,0,none⟩ bs.length):=by
  unfold World.freeze
  rw[if_neg hn]
  refine⟨rfl,rfl,rfl,by simp,fun j hj=>?_⟩
  show (w.heap.modify q _)[j]? =_
  rw[Array.getElem?_modify,if_neg (fun h=>hj h.symm)]
 obtain⟨he,hG⟩:=a30 hg k1 k2 hw hf
 exact⟨_,_,he,hG,.str bs,.str bs,rfl,rfl⟩
end
section
variable {P:Program} {τ:Tab} {ops:Array Oper} {cls:Nat→fZ} {Q:AX→AF→aI→Prop} {ds:List bH} {ls:List Nat} {i:Nat} {t:List (Nat×AV)} {M:aI}
structure a8c where
 d:Nat
 id:Nat
 g:Nat
 g':Nat
 n:Nat
 cap:Nat
 e:TypeId
 c:Array Value
 ys:List UInt8
def W0:Option cT→Option (Nat×TypeId×Array Value)
 |some (.raw (some g) (.cells c e fr) vs t)=>if fr=(0,0)∧vs.size=0∧t.length=0 then some (g,e,c) else none
 |_=>none
theorem LA {x:Option cT} {g:Nat} {e:TypeId} {c:Array Value} (h:W0 x=some (g,e,c)):x=some (qI g e c):=by
 unfold W0 at h
 split at h
 ·rename_i g' c' e' fr vs t
  split at h
  ·rename_i hh
   obtain⟨rfl,h1,h2⟩:=hh
   cases h
   rw[show vs=#[] from Array.eq_empty_of_size_eq_zero h1,show t=[] from List.length_eq_zero_iff.1 h2]
   rfl
  ·cases h
 ·cases h
def Y7 (τ:Tab) (ds:List bH) (t:List (Nat×AV)) (M:aI) (d:Nat) (ty tx:TypeId) (s y:Operand):Option a8c:=
 match AF.ev ⟨t,ds⟩ s,AF.ev ⟨t,ds⟩ y with
 |.bsl id g n cap,.str ys=>
  match W0 (M.get id),aK τ ty,aK τ tx with
  |some (g',e,c),some ti,some xi=>
   match ti.k,xi.k with
   |.slice e',.str=>
    match aK τ e' with
    |some ei=>(match decide (e'=e),decide (ei.size=1),decide (ei.bytes=1) with
     |true,true,true=>some ⟨d,id,g,g',n,cap,e,c,ys⟩
     |_,_,_=>none)
    |none=>none
   |_,_=>none
  |_,_,_=>none
 |_,_=>none
def JR (τ:Tab) (ops:Array Oper) (cls:Nat→fZ) (ds:List bH) (i:Nat) (t:List (Nat×AV)) (M:aI):Option a8c:=
 match ops[i]? with
 |some o=>
  match aV ops ⟨t,ds⟩ o,o.dst,qJ (cls i),o.op with
  |some true,some d,true,.call {callee:=.builtin .append,args:=⟨[s,y]⟩,argTypes:=⟨[ty,tx]⟩}=>Y7 τ ds t M d ty tx s y
  |_,_,_,_=>none
 |none=>none
theorem ZU (hτ:TabOK P τ) {d id g g' n cap:Nat} {e:TypeId} {c:Array Value} {ys:List UInt8} (hs:JR τ ops cls ds i t M=some ⟨d,id,g,g',n,cap,e,c,ys⟩) (hgg:g'=g) {bs:List UInt8} (hn:n=bs.length) (hB:l9 c bs cap) (hlen:n+ys.length≤140737488355328)
  (h:∀(cap':Nat) (c':Array Value),l9 c' (bs++ys) cap'→DW P ops cls Q ds ls ((d,.bsl id (g+1) (n+ys.length) cap')::t) (M.set id (qI (g+1) e c'))):DW P ops cls Q ds (i::ls) t M:=by
 unfold JR at hs
 split at hs
 ·rename_i o hi
  split at hs
  ·rename_i d' s y ty tx hw hd hc ho
   unfold Y7 at hs
   split at hs
   ·rename_i id' g0 n' cap' ys' hS hY
    split at hs
    ·rename_i g' e' c' ti xi hM' ht hxi
     have hM:=LA hM'
     split at hs
     ·rename_i e1 hk hk2
      split at hs
      ·rename_i ei he
       split at hs
       ·rename_i q2 q3 q4
        have q2:=of_decide_eq_true q2
        have q3:=of_decide_eq_true q3
        have q4:=of_decide_eq_true q4
        subst q2
        cases hs
        subst hgg
        refine fA hi hw ?_
        refine SC.of_G hc (by intro c hc;rw[ho] at hc;cases hc) ?_
        refine jQ.mono (y1 hτ ⟨ht,hk,he,by omega⟩ q3 hxi ho hS hn hM hB (by rw[hk2,hY];rfl) (by rw[hY];rfl) (by rw[q4];omega) hlen) ?_
        rintro u M' ⟨cap',c',h1,rfl,rfl⟩
        have:=h cap' c' h1
        simpa [AF.put,hd] using this
       ·cases hs
      ·cases hs
     ·cases hs
    ·cases hs
   ·cases hs
  ·cases hs
 ·cases hs
def XA (τ:Tab) (ds:List bH) (t:List (Nat×AV)) (d:Nat) (ty tx:TypeId) (s y:Operand):Option (Nat×TypeId×List UInt8):=
 match AF.ev ⟨t,ds⟩ s,AF.ev ⟨t,ds⟩ y with
 |.sl _ [] .full,.str ys=>
  match aK τ ty,aK τ tx with
  |some ti,some xi=>
   match ti.k,xi.k with
   |.slice e',.str=>
    match aK τ e' with
    |some ei=>(match decide (ei.size=1),decide (ei.bytes=1) with
     |true,true=>some (d,e',ys)
     |_,_=>none)
    |none=>none
   |_,_=>none
  |_,_=>none
 |_,_=>none
def H2 (τ:Tab) (ops:Array Oper) (cls:Nat→fZ) (ds:List bH) (i:Nat) (t:List (Nat×AV)):Option (Nat×TypeId×List UInt8):=
 match ops[i]? with
 |some o=>
  match aV ops ⟨t,ds⟩ o,o.dst,qJ (cls i),o.op with
  |some true,some d,true,.call {callee:=.builtin .append,args:=⟨[s,y]⟩,argTypes:=⟨[ty,tx]⟩}=>XA τ ds t d ty tx s y
  |_,_,_,_=>none
 |none=>none
theorem a32 (hτ:TabOK P τ) {d:Nat} {e:TypeId} {ys:List UInt8} (hs:H2 τ ops cls ds i t=some (d,e,ys)) (hne:ys≠[]) (hlen:ys.length≤140737488355328)
  (h:∀(cap':Nat) (c':Array Value),l9 c' ys cap'→DW P ops cls Q ds ls ((d,.bsl M.next 0 ys.length cap')::t) (M.push (qI 0 e c'))):DW P ops cls Q ds (i::ls) t M:=by
 unfold H2 at hs
 split at hs
 ·rename_i o hi
  split at hs
  ·rename_i d' s y ty tx hw hd hc ho
   unfold XA at hs
   split at hs
   ·rename_i sz ys' hS hY
    split at hs
    ·rename_i ti xi ht hxi
     split at hs
     ·rename_i e1 hk hk2
      split at hs
      ·rename_i ei he
       split at hs
       ·rename_i q3 q4
        have q3:=of_decide_eq_true q3
        have q4:=of_decide_eq_true q4
        cases hs
        refine fA hi hw ?_
        refine SC.of_G hc (by intro c hc;rw[ho] at hc;cases hc) ?_
        refine jQ.mono (wW hτ ⟨ht,hk,he,by omega⟩ q3 hxi ho hS hne (by rw[hk2,hY];rfl) (by rw[hY];rfl) (by rw[q4];omega) hlen) ?_
        rintro u M' ⟨cap',c',h1,rfl,rfl⟩
        have:=h cap' c' h1
        simpa [AF.put,hd] using this
       ·cases hs
      ·cases hs
     ·cases hs
    ·cases hs
   ·cases hs
  ·cases hs
 ·cases hs
def QN (ops:Array Oper) (cls:Nat→fZ) (ds:List bH) (i:Nat) (t:List (Nat×AV)):Option (Nat×TypeId):=
 match ops[i]? with
 |some o=>
  match aV ops ⟨t,ds⟩ o,o.dst,qJ (cls i),o.op with
  |some true,some d,true,.alloc ty=>some (d,ty)
  |_,_,_,_=>none
 |none=>none
theorem MW {d:Nat} {ty:TypeId} (hs:QN ops cls ds i t=some (d,ty)) {z:Value} (hz:∀w,(zeroValue ty).run P w=.ok z w) (h:DW P ops cls Q ds ls ((d,.ptr M.next 0)::t) (M.push (.raw none (.cells z.cells ty (0,0)) #[] []))):DW P ops cls Q ds (i::ls) t M:=by
 unfold QN at hs
 split at hs
 ·rename_i o hi
  split at hs
  ·rename_i d' ty' hw hd hc ho
   cases hs
   refine rT hi hw hd hc ?_ h
   rw[ho]
   intro μ F w ρc o hg ho ht hr
   have hb:=j6 w (.cells z.cells ty)
   have hnew:({w with heap:=w.heap.push (.cells z.cells ty)}:World).heap[w.heap.size]? =some (.cells z.cells ty (0,0)):=by simp
   obtain⟨he,hG⟩:=pH hg hb (vs:=#[]) (t:=[]) (Nat.le_refl _) hnew (fun i=>.top _)
   refine⟨_,_,.pointer (some ⟨w.heap.size,0,none⟩),_,?_,.inl rfl,he,hG,?_⟩
   ·simp[execOp,ho,Instr.alloc,newVar,newRow,hz]
   ·exact .ptr _ _ _ rfl (by simp[Mu.put]) (fun b hb=>by simp[Mu.put] at hb;subst hb;rfl)
  ·cases hs
 ·cases hs
end
end Go.Ab
namespace Go.Proofs.YthnhbmlefiafaaaGreatDoor
open Go.Ab Go.Shelf
def YY (g n cap:Nat) (c:Array Value):aI:=⟨2,[(0,.cells [.ptr 0 0,.bsl 1 g n cap]),(1,qI g 5 c)]⟩
def a6m:aI:=⟨1,[(0,z7 57)]⟩
theorem a8w (s:aG) (hs:s≠[]) (hl:s.length < 1000000000):aS Tryz.prog 28 [.ptr 0 0,.str s] a6m (fun e N=>∃cap c,l9 c s cap∧e=.ret (.tup [.int .i64 (s.length:Int),.nilIface])∧(YY 0 s.length cap c).le N):=by
 refine aC aF Tryz.func28 rfl (by decide) (by simp[Tryz.f28]) ?_
 unfold a6m
 repeat' (first|refine zA rfl ?_|refine aA ?_|refine aJ rfl ?_)
 refine cU rfl rfl (a1v FM VL.toX72 ⟨_,_,Tryz.func68,rfl,by decide⟩ rfl) ?_ (fun u M' h=>by cases h.1)
 rintro u N ⟨e,rfl⟩
 cases e
 repeat' (first|refine a32 aF rfl hs (by omega) ?_|refine zA rfl ?_|refine aA ?_|refine aJ rfl ?_)
 intro cap c hB
 repeat' (first|refine zA rfl ?_|refine aA ?_|refine aJ rfl ?_)
 exact⟨rfl,_,rfl,cap,c,hB,rfl,aI.le_cons rfl (aI.le_cons rfl (aI.le_nil rfl))⟩
theorem a5s (s bs:aG) (g cap:Nat) (c:Array Value) (hB:l9 c bs cap) (hl:bs.length+s.length < 1000000000):aS Tryz.prog 28 [.ptr 0 0,.str s] (YY g bs.length cap c) (fun e N=>∃cap c,l9 c (bs++s) cap∧e=.ret (.tup [.int .i64 (s.length:Int),.nilIface])∧(YY (g+1) (bs++s).length cap c).le N):=by
 refine aC aF Tryz.func28 rfl (by decide) (by simp[Tryz.f28]) ?_
 unfold YY
 repeat' (first|refine zA rfl ?_|refine aA ?_|refine aJ rfl ?_)
 refine cU rfl rfl (UM FM VL.toX72 ⟨_,_,Tryz.func68,rfl,by decide⟩ rfl) ?_ (fun u M' h=>by cases h.1)
 rintro u N ⟨e,rfl⟩
 cases e
 repeat' (first|refine ZU aF rfl rfl rfl hB (by omega) ?_|refine zA rfl ?_|refine aA ?_|refine aJ rfl ?_)
 intro cap c hB
 repeat' (first|refine zA rfl ?_|refine aA ?_|refine aJ rfl ?_)
 rw[←List.length_append]
 exact⟨rfl,_,rfl,cap,c,hB,rfl,aI.le_cons rfl (aI.le_cons rfl (aI.le_nil rfl))⟩
theorem a73 {M:aI} {id:Nat} (hM:M.get id=some (z7 57)) (hlt:id < M.next) (s:aG) (hs:s≠[]) (hl:s.length < 1000000000):aS Tryz.prog 28 [.ptr id 0,.str s] M fun e N=>
  ∃cap c,l9 c s cap∧e=.ret (.tup [.int .i64 (s.length:Int),.nilIface])∧N=(M.push (qI 0 5 c)).set id (.cells [.ptr id 0,.bsl M.next 0 s.length cap]):=by
 refine aS.frame [id] (by simp) (by simpa using hlt) (N0:=a6m) rfl ?_ (a8w s hs hl) ⟨lZ.ptr rfl,lZ.closed aR,trivial⟩ ?_
 ·intro k o1 hk
  have hk':(if k=0 then some (z7 57) else none)=some o1:=hk
  split at hk'
  ·rename_i h0
   subst h0
   cases hk'
   exact⟨id,_,rfl,hM,rfl,rfl,rfl,rfl,rfl⟩
  ·cases hk'
 ·rintro e M1 ⟨cap,c,hB,rfl,hn,hle⟩
  refine⟨.ret (.tup [.int .i64 (s.length:Int),.nilIface]),_,fW.closed (aW (aZ aB k9)),⟨?_,?_⟩,cap,c,hB,rfl,rfl⟩
  ·show M.next+1=M.next+(M1.next - 1)
   rw[←hn]
   rfl
  ·intro i o hi
   rw[aI.get_set] at hi
   split at hi
   ·rename_i h0
    cases hi
    refine .inl ⟨0,_,.inl (by rw[h0];rfl),hle 0 _ rfl,?_⟩
    exact⟨fW.ptr,fW.bsl,trivial⟩
   ·rename_i h0
    rw[aI.get_push] at hi
    split at hi
    ·rename_i h1
     cases hi
     exact .inl ⟨1,_,.inr ⟨Nat.le_refl _,h1⟩,hle 1 _ rfl,rfl,rfl,rfl,rfl,rfl⟩
    ·exact .inr ⟨by simpa using h0,hi⟩
theorem a2l {M:aI} {id k g cap:Nat} {c:Array Value} {bs:aG} (hM:M.get id=some (.cells [.ptr id 0,.bsl k g bs.length cap])) (hK:M.get k=some (qI g 5 c)) (hne:id≠k) (hlt:id < M.next) (hltk:k < M.next)
  (hB:l9 c bs cap) (s:aG) (hl:bs.length+s.length < 1000000000):aS Tryz.prog 28 [.ptr id 0,.str s] M fun e N=>
  ∃cap c,l9 c (bs++s) cap∧e=.ret (.tup [.int .i64 (s.length:Int),.nilIface])∧N=(M.set id (.cells [.ptr id 0,.bsl k (g+1) (bs++s).length cap])).set k (qI (g+1) 5 c):=by
 refine aS.frame [id,k] (by simp[hne]) (by intro i hi;simp at hi;rcases hi with rfl|rfl<;>assumption) (N0:=YY g bs.length cap c) rfl ?_ (a5s s bs g cap c hB hl) ⟨lZ.ptr rfl,lZ.closed aR,trivial⟩ ?_
 ·intro j o1 hj
  have hj':(if j=0 then some (cT.cells [.ptr 0 0,.bsl 1 g bs.length cap]) else if j=1 then some (qI g 5 c) else none)=some o1:=hj
  split at hj'
  ·rename_i h0
   subst h0
   cases hj'
   exact⟨id,_,rfl,hM,lZ.ptr rfl,lZ.bsl rfl,trivial⟩
  ·split at hj'
   ·rename_i h0
    subst h0
    cases hj'
    exact⟨k,_,rfl,hK,rfl,rfl,rfl,rfl,rfl⟩
   ·cases hj'
 ·rintro e M1 ⟨cap,c,hB,rfl,hn,hle⟩
  refine⟨.ret (.tup [.int .i64 (s.length:Int),.nilIface]),_,fW.closed (aW (aZ aB k9)),⟨?_,?_⟩,cap,c,hB,rfl,rfl⟩
  ·show M.next=M.next+(M1.next - 2)
   rw[←hn]
   rfl
  ·intro i o hi
   rw[aI.get_set] at hi
   split at hi
   ·rename_i h0
    cases hi
    exact .inl ⟨1,_,.inl (by rw[h0];rfl),hle 1 _ rfl,rfl,rfl,rfl,rfl,rfl⟩
   ·rename_i h0
    rw[aI.get_set] at hi
    split at hi
    ·rename_i h1
     cases hi
     refine .inl ⟨0,_,.inl (by rw[h1];rfl),hle 0 _ rfl,?_⟩
     exact⟨fW.ptr,fW.bsl,trivial⟩
    ·rename_i h1
     exact .inr ⟨by simp;exact⟨h1,h0⟩,hi⟩
def E4 (k g n cap:Nat) (c:Array Value):aI:=⟨k+1,[(0,.cells [.ptr 0 0,.bsl k g n cap]),(k,qI g 5 c)]⟩
def XT (k:Nat):aI:=⟨k,[(0,z7 57)]⟩
def RL (k:Nat) (bs:aG) (N:aI):Prop:=(bs=[]∧N=XT k)∨(bs≠[]∧∃g cap c,l9 c bs cap∧N=E4 k g bs.length cap c)
theorem IO {k g n cap:Nat} {c:Array Value} (hk:0 < k):(E4 k g n cap c).get k=some (qI g 5 c):=by
 simp[E4,aI.get,aK]
 omega
theorem zJ {k:Nat} (hk:0 < k) {bs s:aG} {N:aI} (hN:RL k bs N) (hs:s≠[]) (hl:bs.length+s.length < 1000000000):
  aS Tryz.prog 28 [.ptr 0 0,.str s] N fun e N'=>e=.ret (.tup [.int .i64 (s.length:Int),.nilIface])∧∃N2,RL k (bs++s) N2∧N2.le N':=by
 rcases hN with ⟨rfl,rfl⟩|⟨_,g,cap,c,hB,rfl⟩
 ·refine (a73 (M:=XT k) (id:=0) rfl hk s hs (by omega)).mono ?_
  rintro e N' ⟨cap,c,hB,rfl,rfl⟩
  refine⟨rfl,E4 k 0 ([]++s).length cap c,.inr ⟨hs,0,cap,c,hB,rfl⟩,rfl,?_⟩
  intro i o hi
  rw[aI.get_set]
  simp[E4,aI.get,aK] at hi
  split at hi
  ·rename_i h0
   rw[if_pos h0]
   exact hi
  ·rename_i h0
   rw[if_neg h0,aI.get_push]
   split at hi
   ·rename_i h1
    rw[if_pos (show i=(XT k).next from h1)]
    exact hi
   ·cases hi
 ·refine (a2l (M:=E4 k g bs.length cap c) (id:=0) (k:=k) rfl (IO hk) (by omega) (Nat.succ_pos _) (Nat.lt_succ_self _) hB s hl).mono ?_
  rintro e N' ⟨cap,c,hB,rfl,rfl⟩
  refine⟨rfl,E4 k (g+1) (bs++s).length cap c,.inr ⟨by simp[hs],g+1,cap,c,hB,rfl⟩,rfl,?_⟩
  intro i o hi
  rw[aI.get_set]
  simp only[E4,aI.get,aK] at hi
  split at hi
  ·rename_i h0
   rw[if_neg (by omega),aI.get_set,if_pos h0]
   exact hi
  ·split at hi
   ·rename_i h0
    rw[if_pos h0]
    exact hi
   ·cases hi
theorem a4r {M:aI} {id k g cap:Nat} {c:Array Value} {bs:aG} {x:AV} (hM:M.get id=some (.cells [x,.bsl k g bs.length cap])) (hK:M.get k=some (qI g 5 c)) (hB:l9 c bs cap) (h0:bs≠[]) (hl:bs.length < 1000000000):
  aS Tryz.prog 30 [.ptr id 0] M fun e N=>e=.ret (.str bs)∧N=M.drop k:=
 a2p x6 VL ⟨_,_,Tryz.func30,rfl,by decide⟩ hM hK hB h0 (by omega)
theorem PA {k:Nat} (hk:0 < k) {bs:aG} {N:aI} (hN:RL k bs N) (h0:bs≠[]) (hl:bs.length < 1000000000):aS Tryz.prog 30 [.ptr 0 0] N fun e N'=>e=.ret (.str bs)∧N'.next=N.next:=by
 rcases hN with ⟨rfl,rfl⟩|⟨_,g,cap,c,hB,rfl⟩
 ·exact absurd rfl h0
 ·refine (a4r (M:=E4 k g bs.length cap c) (id:=0) rfl (IO hk) hB h0 hl).mono ?_
  rintro e N' ⟨rfl,rfl⟩
  exact⟨rfl,rfl⟩
end Go.Proofs.YthnhbmlefiafaaaGreatDoor
