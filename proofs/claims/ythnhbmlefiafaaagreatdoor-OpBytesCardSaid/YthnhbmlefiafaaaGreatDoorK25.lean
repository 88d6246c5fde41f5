/- Parts of the proof, one behind the other. No further condition. -/
import Derived.Test.YthnhbmlefiafaaaGreatDoorK24
set_option linter.unusedVariables false
set_option linter.unusedSimpArgs false
set_option maxRecDepth 100000
set_option maxHeartbeats 8000000
namespace Go.Proofs.YthnhbmlefiafaaaGreatDoor
open Go.Ab
def DF (s:Sg) (t:Tr):List AV:=[.int .i64 s.last,.int .i64 s.mark,.sl 3 (s.pairs.map Pr.av) .none,.sl 2 (s.pins.map Pn.av) .none,.sl 4 (s.seen.map Sn.av) .none,t.av]
def GG (s:Sg) (t:Tr):aI:=⟨1,[(0,.cells (DF s t))]⟩
theorem q6 (s:Sg) (t:Tr):∀x,x∈DF s t→aP x:=eK aB (eK aB (eK (bO _) (cD (bP _ (.inl rfl)) (bQ _ (.inl rfl)) (bL t))))
def WR (s:Sg) (z:Sg×(Int×Int)) (e:dG) (d:List AV):Prop:=∃t,t.all=z.1.pairs∧d=DF {z.1 with pairs:=s.pairs} t∧e=if z.2.1=0 then .ret (.int .i64 z.2.2) else .pan (nJ z.2.1)
abbrev WP (s:Sg) (z:Sg×(Int×Int)):dG→aI→Prop:=fun e N=>N.next=1∧∃d,N.get 0=some (.cells d)∧WR s z e d
theorem EC:aN Tryz.prog 142 [.int .i64 0] (.tup []):=by
 intro M
 refine aC aF Tryz.func142 rfl (by decide) (by simp[Tryz.f142]) ?_
 repeat' (first|refine zA rfl ?_|refine aA ?_|refine aJ rfl ?_)
 exact⟨rfl,_,rfl,rfl,rfl⟩
theorem XJ (e:Int) (h:e≠0):TN Tryz.prog 142 [.int .i64 e] (.pan (nJ e)):=by
 refine xV (aY aB) (eJ e) ?_
 refine aC aF Tryz.func142 rfl (by decide) (by simp[Tryz.f142]) ?_
 have d1:(!decide (e=0))=true:=by simp[h]
 repeat' (first|refine zB rfl d1 ?_|refine zA rfl ?_|refine aA ?_|refine aJ rfl ?_)
 refine fI rfl rfl rfl rfl rfl ?_
 exact⟨rfl,aH.of_closed (eJ e)⟩
theorem a99 (s:Sg) (t:Tr) (o:Oo) (ho:cN o) (hc:o.ch.length < 1000) (ht:t.all=s.pairs) (hp:s.pairs.length≤200) (hv:dD s.pairs) (hl:s.last≤1000000000) (h0:0≤s.last) (hB:s.last < 1000000000→tE s.pairs (s.last+1) o.ch=true):aS Tryz.prog 90 [.ptr 0 0,o.av] (GG s t) (WP s (BN s o)):=by
 refine aC aF Tryz.func90 rfl (by decide) (by simp[Tryz.f90]) ?_
 have lp:=aU Pr.av s.pairs
 have lc:=aU Ch.av o.ch
 have kt:=EC
 have stop:WR s (BN s o) (.pan (nJ 2)) (DF s t)∨True:=.inr trivial
 unfold BN
 by_cases h1:s.last=1000000000
 ·have d1:decide (s.last=1000000000)=true:=decide_eq_true h1
  rw[if_pos (.inl (by omega))]
  unfold GG DF Tr.av
  repeat' (first|refine zB rfl d1 ?_|refine zA rfl ?_|refine aA ?_|refine aJ rfl ?_|refine aO mixed [0,1,2,3,4,5,6,7,8,9,10,11,12,13,14,15,16,17,18] [.P,.R,.R,.R,.R,.P,.P,.P,.R,.R,.R,.R,.P,.R,.R,.P,.P,.P,.P] rfl rfl (by kernel_rfl) ?_)
  refine fI rfl rfl rfl rfl rfl ?_
  exact⟨rfl,rfl,_,rfl,t,ht,rfl,rfl⟩
 ·have d1:decide (s.last=1000000000)=false:=decide_eq_false h1
  have f1:IntKind.wrap .i64 ((s.pairs.length:Int)+(o.ch.length:Int))=((s.pairs.length+o.ch.length:Nat):Int):=by
   rw[Go.Ab.wrap_small (i:=(s.pairs.length:Int)+(o.ch.length:Int)) (by omega) (by omega)]
   omega
  have f2:IntKind.wrap .i64 (s.last+1)=s.last+1:=Go.Ab.wrap_small (by omega) (by omega)
  by_cases h2:200 < s.pairs.length+o.ch.length
  ·have d2:decide (((s.pairs.length+o.ch.length:Nat):Int) > 200)=true:=decide_eq_true (by omega)
   rw[if_pos (.inr h2)]
   unfold GG DF Tr.av
   repeat' (first|refine zB rfl (by first|exact d1|exact d2) ?_|refine zI rfl (by first|exact lp|exact lc|exact f1) ?_|refine zA rfl ?_|refine aA ?_|refine aJ rfl ?_|refine aO mixed [0,1,2,3,4,5,6,7,8,9,10,11,12,13,14,15,16,17,18] [.P,.R,.R,.R,.R,.P,.P,.P,.R,.R,.R,.R,.P,.R,.R,.P,.P,.P,.P] rfl rfl (by kernel_rfl) ?_)
   refine fI rfl rfl rfl rfl rfl ?_
   exact⟨rfl,rfl,_,rfl,t,ht,rfl,rfl⟩
  ·have d2:decide (((s.pairs.length+o.ch.length:Nat):Int) > 200)=false:=decide_eq_false (by omega)
   rw[if_neg (by omega)]
   have k:=a56 t (s.last+1) o.ch .none (.inl rfl) (by rw[ht];omega) (by rw[ht];exact hv) ho.2
   have hT:(o6 t (s.last+1) o.ch).all=iH s.pairs (s.last+1) o.ch:=by rw[KQ (by rw[ht];omega),ht]
   unfold K8 at k
   rw[if_pos (by rw[ht];exact hB (by omega))] at k
   generalize o6 t (s.last+1) o.ch=u at*
   unfold gS at k
   unfold GG DF
   unfold Tr.av at k ⊢
   repeat' (first|refine zB rfl (by first|exact d1|exact d2) ?_|refine zI rfl (by first|exact lp|exact lc|exact f1|exact f2) ?_|refine zA rfl ?_|refine aA ?_|refine aJ rfl ?_|refine aD rfl k ?_|refine aD rfl kt ?_|refine aO mixed [0,1,2,3,4,5,6,7,8,9,10,11,12,13,14,15,16,17,18] [.P,.R,.R,.R,.R,.P,.P,.P,.R,.R,.R,.R,.P,.R,.R,.P,.P,.P,.P] rfl rfl (by kernel_rfl) ?_|refine aO mixed [0,4,1,2,3,5,6,7,8,9,10,11,12,13,14,15,16,17] [.P,.R,.R,.R,.P,.R,.R,.R,.R,.P,.R,.R,.P,.P,.P,.P,.P,.P] rfl rfl (by kernel_rfl) ?_)
   exact⟨rfl,_,rfl,rfl,_,rfl,u,hT,rfl,rfl⟩
theorem a4v (s:Sg) (t:Tr) (o:Oo) (ht:t.all=s.pairs) (hp:s.pins.length < 100000):aS Tryz.prog 91 [.ptr 0 0,o.av] (GG s t) (WP s (wO s o)):=by
 refine aC aF Tryz.func91 rfl (by decide) (by simp[Tryz.f91]) ?_
 have k:=a3f s.pins ⟨o.session,o.at_⟩ hp
 have kt:=EC
 unfold wO
 unfold NP bI at k
 generalize oV s.pins ⟨o.session,o.at_⟩=z at*
 obtain⟨l,e⟩:=z
 unfold GG DF Tr.av
 by_cases h1:o.at_ < s.mark
 ·have d1:decide (o.at_ < s.mark)=true:=decide_eq_true h1
  rw[if_pos h1]
  repeat' (first|refine zB rfl d1 ?_|refine zA rfl ?_|refine aA ?_|refine aJ rfl ?_|refine aO mixed [2,0,1,3,4,5,6,7] [.R,.R,.P,.R,.R,.R,.R,.P] rfl rfl (by kernel_rfl) ?_)
  refine fI rfl rfl rfl rfl rfl ?_
  exact⟨rfl,rfl,_,rfl,t,ht,rfl,rfl⟩
 ·have d1:decide (o.at_ < s.mark)=false:=decide_eq_false h1
  rw[if_neg h1]
  by_cases h2:s.last < o.at_
  ·have d2:decide (o.at_ > s.last)=true:=decide_eq_true h2
   rw[if_pos h2]
   repeat' (first|refine zB rfl (by first|exact d1|exact d2) ?_|refine zA rfl ?_|refine aA ?_|refine aJ rfl ?_|refine aO mixed [2,0,1,3,4,5,6,7] [.R,.R,.P,.R,.R,.R,.R,.P] rfl rfl (by kernel_rfl) ?_)
   refine fI rfl rfl rfl rfl rfl ?_
   exact⟨rfl,rfl,_,rfl,t,ht,rfl,rfl⟩
  ·have d2:decide (o.at_ > s.last)=false:=decide_eq_false h2
   rw[if_neg h2]
   by_cases h3:e=0
   ·subst h3
    rw[if_pos rfl]
    repeat' (first|refine zB rfl (by first|exact d1|exact d2) ?_|refine zA rfl ?_|refine aA ?_|refine aJ rfl ?_|refine aD rfl k ?_|refine aD rfl kt ?_|refine aO mixed [2,0,1,3,4,5,6,7] [.R,.R,.P,.R,.R,.R,.R,.P] rfl rfl (by kernel_rfl) ?_|refine aO mixed [0,1,2,3,4,5,6,7,8,9,10,11,12,13,14,15] [.P,.R,.R,.R,.R,.R,.R,.R,.R,.P,.P,.P,.P,.P,.P,.P] rfl rfl (by kernel_rfl) ?_)
    exact⟨rfl,_,rfl,rfl,_,rfl,t,ht,rfl,rfl⟩
   ·rw[if_neg h3]
    repeat' (first|refine zB rfl (by first|exact d1|exact d2) ?_|refine zA rfl ?_|refine aA ?_|refine aJ rfl ?_|refine aD rfl k ?_|refine BP rfl rfl (XJ e h3) ?_|refine aO mixed [2,0,1,3,4,5,6,7] [.R,.R,.P,.R,.R,.R,.R,.P] rfl rfl (by kernel_rfl) ?_|refine aO mixed [0,1,2,3,4,5,6,7,8,9,10,11,12,13,14,15] [.P,.R,.R,.R,.R,.R,.R,.R,.R,.P,.P,.P,.P,.P,.P,.P] rfl rfl (by kernel_rfl) ?_)
    exact⟨rfl,rfl,_,rfl,t,ht,rfl,(if_neg h3).symm⟩
theorem a7a (s:Sg) (t:Tr) (o:Oo) (ht:t.all=s.pairs) (hp:s.pins.length < 100000):aS Tryz.prog 92 [.ptr 0 0,o.av] (GG s t) (WP s (wP s o)):=by
 refine aC aF Tryz.func92 rfl (by decide) (by simp[Tryz.f92]) ?_
 have k:=S3 s.pins o.session hp
 have k0:=a4z s.pins .none (by omega) o.session
 have kt:=EC
 unfold wP
 unfold NP bI at k
 unfold pfA bI at k0
 generalize gF s.pins o.session=z at*
 generalize PL s.pins o.session=v at*
 obtain⟨l,e⟩:=z
 unfold GG DF Tr.av
 by_cases h3:e=0
 ·subst h3
  rw[if_pos rfl]
  repeat' (first|refine zA rfl ?_|refine aA ?_|refine aJ rfl ?_|refine aD rfl k ?_|refine aD rfl k0 ?_|refine aD rfl kt ?_|refine aO mixed [0,1,2,3,4,5,6,7,8,9,10,11,12] [.P,.R,.R,.R,.R,.R,.R,.P,.P,.P,.P,.P,.P] rfl rfl (by kernel_rfl) ?_)
  exact⟨rfl,_,rfl,rfl,_,rfl,t,ht,rfl,rfl⟩
 ·rw[if_neg h3]
  repeat' (first|refine zA rfl ?_|refine aA ?_|refine aJ rfl ?_|refine aD rfl k ?_|refine aD rfl k0 ?_|refine BP rfl rfl (XJ e h3) ?_|refine aO mixed [0,1,2,3,4,5,6,7,8,9,10,11,12] [.P,.R,.R,.R,.R,.R,.R,.P,.P,.P,.P,.P,.P] rfl rfl (by kernel_rfl) ?_)
  exact⟨rfl,rfl,_,rfl,t,ht,rfl,(if_neg h3).symm⟩
theorem a3d (s:Sg) (t:Tr) (o:Oo) (ht:t.all=s.pairs) (hp:s.pairs.length < 1000000) (hv:dD s.pairs) (hn:s.pins.length < 1000000) (hB:QW s.pairs (eA s.mark o.at_ s.last s.pins)=true):aS Tryz.prog 93 [.ptr 0 0,o.av] (GG s t) (WP s (nU s o)):=by
 refine aC aF Tryz.func93 rfl (by decide) (by simp[Tryz.f93]) ?_
 have k0:=UQ s.mark o.at_ s.last s.pins .none (.inl rfl) hn
 have k:=a6b t (by rw[ht];exact hp) (by rw[ht];exact hv) (eA s.mark o.at_ s.last s.pins)
 have kt:=EC
 have hT:=TW (t:=t) (by rw[ht];omega) (eA s.mark o.at_ s.last s.pins)
 rw[ht] at hT
 unfold ZC at k
 rw[if_pos (by rw[ht];exact hB)] at k
 unfold nU
 unfold bI at k0
 generalize eA s.mark o.at_ s.last s.pins=w at*
 generalize VK t w=u at*
 generalize ((dQ w t.all).2.length:Int)=n at*
 unfold GG DF
 unfold Tr.av at k ⊢
 repeat' (first|refine zA rfl ?_|refine aA ?_|refine aJ rfl ?_|refine aD rfl k0 ?_|refine aD rfl k ?_|refine aD rfl kt ?_|refine aO mixed [0,7,12,1,2,3,4,5,6,8,9,10,11,13,14,15,16,17,18] [.P,.R,.R,.R,.R,.R,.R,.P,.R,.R,.R,.R,.P,.R,.R,.R,.R,.P,.P] rfl rfl (by kernel_rfl) ?_)
 exact⟨rfl,_,rfl,rfl,_,rfl,u,hT,rfl,rfl⟩
theorem a94 {g:FuncId} {M:aI} {id:Nat} {s:Sg} {t:Tr} {o:Oo} {z:Sg×(Int×Int)} (h:aS Tryz.prog g [.ptr 0 0,o.av] (GG s t) (WP s z)) (hM:M.get id=some (.cells (DF s t))) (hlt:id < M.next):aS Tryz.prog g [.ptr id 0,o.av] M fun e N=>∃d,N=M.set id (.cells d)∧WR s z e d:=by
 refine aS.frame1 id hM hlt (q6 s t) h ⟨lZ.ptr rfl,lZ.closed (cH o),trivial⟩ ?_
 rintro e d ⟨t',h1,rfl,rfl⟩
 refine⟨?_,q6 _ _,_,rfl,t',h1,rfl,rfl⟩
 split
 ·next he=>
  split at he<;>cases he
  exact aB
 ·next he=>
  split at he<;>cases he
  exact eJ _
def woM (nx:Nat) (d:List AV) (a b:AV):aI:=⟨nx,[(0,.cells d),(1,.cells [a,b])]⟩
theorem a5w (nx:Nat) (d:List AV) (a b:AV) (e:Int):bJ Tryz.prog 89 [.ptr 1 0] (.pan (nJ e)) (woM nx d a b) (fun m' M'=>m'=.ret∧M'.next=nx∧M'.get 0=some (.cells d)∧M'.get 1=some (.cells [.int .i64 e,.int .i64 0])):=by
 refine cQ aF Tryz.func89 rfl (by decide) rfl rfl rfl rfl rfl (by simp[Tryz.f89]) ?_
 refine cM aF rfl rfl rfl rfl rfl ?_
 repeat' (first|refine zA rfl ?_|refine aA ?_|refine aJ rfl ?_)
 exact⟨rfl,⟨_,rfl⟩,rfl,rfl,rfl⟩
theorem a8h (nx:Nat) (d:List AV) (a b:AV):bJ Tryz.prog 89 [.ptr 1 0] .ret (woM nx d a b) (fun m' M'=>m'=.ret∧M'.next=nx∧M'.get 0=some (.cells d)∧M'.get 1=some (.cells [a,b])):=by
 refine cQ aF Tryz.func89 rfl (by decide) rfl rfl rfl rfl rfl (by simp[Tryz.f89]) ?_
 refine cM aF rfl rfl rfl rfl rfl ?_
 repeat' (first|refine zA rfl ?_|refine aA ?_|refine aJ rfl ?_)
 exact⟨rfl,⟨_,rfl⟩,rfl,rfl,rfl⟩
def woD:bH:={f:=.func 89,cap:=[.ptr 1 0],args:=[],keep:=[(4,.ptr 1 0)]}
def DR (s:Sg) (z:Sg×(Int×Int)) (e:dG) (d:List AV):Prop:=∃t,t.all=z.1.pairs∧d=DF {z.1 with pairs:=s.pairs} t∧e=.ret (dK z.2)
abbrev DP (s:Sg) (z:Sg×(Int×Int)):dG→aI→Prop:=fun e N=>N.next=3∧∃d,N.get 0=some (.cells d)∧DR s z e d
theorem WG {M:aI} {a b:AV} {t:List (Nat×AV)} (h4:AF.get ⟨t,[]⟩ 4=.ptr 1 0) (g1:M.get 1=some (.cells [a,b])):kP lY M ⟨t,[]⟩ Tryz.f52.results=some (.agg [a,b]):=by
 have a1:eS M lY 44 (.ptr 1 0)=some (.agg [a,b]):=by
  simp only[eS,g1]
  rfl
 show kP lY M ⟨t,[]⟩ #[.cell 4 44]=_
 simp only[kP,wY,qQ,h4,a1]
theorem a5q {M:aI} {s:Sg} {z:Sg×(Int×Int)} {u:Tr} {a b:AV} {t:List (Nat×AV)} (hu:u.all=z.1.pairs) (hz:z.2.2=0) (hn:M.next=3) (h:(woM M.next (DF {z.1 with pairs:=s.pairs} u) a b).le M) (h4:AF.get ⟨t,[]⟩ 4=.ptr 1 0):gP Tryz.prog lY Tryz.f52 ⟨t,[]⟩ (DP s z) [woD] (.pan (nJ z.2.1)) M:=by
 refine⟨rfl,89,rfl,bJ.le h (bJ.mono (a5w M.next _ a b z.2.1) ?_)⟩
 rintro m' M' ⟨rfl,g,g0,g1⟩
 refine⟨_,WG h4 g1,g.trans hn,_,g0,u,hu,rfl,?_⟩
 obtain⟨x,c,n⟩:=z
 cases hz
 rfl
theorem a57 {M:aI} {s:Sg} {z:Sg×(Int×Int)} {u:Tr} {t:List (Nat×AV)} (hu:u.all=z.1.pairs) (hz:z.2.1=0) (hn:M.next=3) (h:(woM M.next (DF {z.1 with pairs:=s.pairs} u) (.int .i64 0) (.int .i64 z.2.2)).le M) (h4:AF.get ⟨t,[]⟩ 4=.ptr 1 0):gP Tryz.prog lY Tryz.f52 ⟨t,[]⟩ (DP s z) [woD] .ret M:=by
 refine⟨rfl,89,rfl,bJ.le h (bJ.mono (a8h M.next _ _ _) ?_)⟩
 rintro m' M' ⟨rfl,g,g0,g1⟩
 refine⟨_,WG h4 g1,g.trans hn,_,g0,u,hu,rfl,?_⟩
 obtain⟨x,c,n⟩:=z
 cases hz
 rfl
theorem a0o (s:Sg) (t:Tr) (c q k se at_:Int) (ch:List Ch) (z:Sg×(Int×Int)) (hz:z.2.1≠0→z.2.2=0)
  (g:FuncId) (hk:(k=1∧g=90)∨(k=2∧g=91)∨(k=3∧g=92)∨(k=4∧g=93))
  (kd:aS Tryz.prog g [.ptr 0 0,Oo.av ⟨c,q,k,se,at_,ch⟩] (GG s t) (WP s z)):aS Tryz.prog 52 [.ptr 0 0,Oo.av ⟨c,q,k,se,at_,ch⟩] (GG s t) (DP s z):=by
 refine jE aF Tryz.func52 rfl (by decide) (by simp[Tryz.f52]) ?_
 unfold GG
 repeat' (first|refine zA rfl ?_|refine aA ?_|refine aJ rfl ?_)
 refine gY ?_
 refine XR rfl rfl mR ?_
 refine iF rfl rfl rfl rfl [(4,.ptr 1 0)] ?_ ?_
 ·intro p hp
  simp only[List.mem_cons,List.not_mem_nil,or_false] at hp
  rcases hp with rfl<;>rfl
 refine lT ?_
 refine W.le (g:=⟨[(0,.ptr 0 0),(3,.ref (Oo.cells ⟨c,q,k,se,at_,ch⟩)),(4,.ptr 1 0)],[woD]⟩) (N:=⟨2,[(0,.cells (DF s t)),(1,.cells [.int .i64 0,.int .i64 0])]⟩) ?_ ?_ ?_
 ·repeat (refine AF.le_cons rfl ?_)
  exact AF.le_nil rfl
 ·exact aI.le_cons rfl (aI.le_cons rfl (aI.le_nil rfl))
 rcases hk with ⟨rfl,rfl⟩|⟨rfl,rfl⟩|⟨rfl,rfl⟩|⟨rfl,rfl⟩
 all_goals
  repeat' (first|refine zA rfl ?_|refine aA ?_|refine aJ rfl ?_|refine aO mixed [0,1,2,3,4,5,6,7] [.R,.R,.R,.R,.R,.E,.P,.E] rfl rfl (by kernel_rfl) ?_)
  refine cU rfl rfl (a94 kd rfl (by show 0 < 3;decide)) ?_ ?_
  ·rintro u N ⟨d,rfl,t',h1,rfl,h2⟩
   by_cases h0:z.2.1=0
   ·rw[if_pos h0] at h2
    cases h2
    repeat' (first|refine zA rfl ?_|refine aA ?_|refine aJ rfl ?_)
    exact a57 h1 h0 rfl (aI.le_cons rfl (aI.le_cons rfl (aI.le_nil rfl))) rfl
   ·rw[if_neg h0] at h2
    cases h2
  ·rintro u N ⟨d,rfl,t',h1,rfl,h2⟩
   by_cases h0:z.2.1=0
   ·rw[if_pos h0] at h2
    cases h2
   ·rw[if_neg h0] at h2
    cases h2
    exact a5q h1 (hz h0) rfl (aI.le_cons rfl (aI.le_cons rfl (aI.le_nil rfl))) rfl
end Go.Proofs.YthnhbmlefiafaaaGreatDoor
namespace Go.Ab
open Go.RowKit
def WI (P:Program) (g:FuncId) (args:List AV) (M:aI) (r:AV):Prop:=
 ∀(μ:Mu) (F:cO) (w:World) (vs:Array Value),eP μ F M w→dB μ F w args vs→∃v,(callFunc g vs).run P w=.ok (.value v) w∧bR μ F w r v
theorem G5 {P:Program} {x:Operand} {ags:Array Operand} {ts:Array TypeId} {ty:TypeId} {ρ:Operand→AV} {M:aI} {g:FuncId} {r:AV} (hx:ρ x=.fn (.func g) [] []) (h:WI P g (ags.toList.map ρ) M r):
  x7 P (.call {callee:=.value x,args:=ags,argTypes:=ts}) ty ρ M r:=by
 intro μ F w ρc o hg ho ht hr
 have hv:=hr x (by simp[Op.operands,Call.operands])
 rw[hx] at hv
 obtain⟨c1,c2,he,hs1,hs2,f1,f2⟩:=hv.fn_inv
 have e1:c1=#[]:=by simpa using hs1
 have e2:c2=#[]:=by simpa using hs2
 subst e1
 subst e2
 have hargs:dB μ F w (ags.toList.map ρ) (ags.map ρc):=dB.map fun y hy=>hr y (by simp[Op.operands,Call.operands,hy])
 obtain⟨v,h1,h2⟩:=h μ F w _ hg hargs
 refine⟨v,w,?_,Below.refl _ _,h2⟩
 simp[execOp,ho,resolve,he,Deferred.ofValue,invoke,h1]
theorem a1l {P:Program} {ops:Array Oper} {cls:Nat→fZ} {Q:AX→AF→aI→Prop} {ds:List bH} {l:List Nat} {i:Nat} {o:Oper} {t:List (Nat×AV)} {M:aI} {d:Nat} (hi:ops[i]? =some o) (hw:aV ops ⟨t,ds⟩ o=some true) (hd:o.dst=some d) (hk:qH (cls i)=true)
  {y:Operand} {ags:Array Operand} {ts:Array TypeId} (ho:o.op=.call {callee:=.value y,args:=ags,argTypes:=ts}) {g:FuncId} (hx:AF.ev ⟨t,ds⟩ y=.fn (.func g) [] []) {x:AV} (hc:WI P g (ags.toList.map (AF.ev ⟨t,ds⟩)) M x)
  (h:DW P ops cls Q ds l ((d,x)::t) M):DW P ops cls Q ds (i::l) t M:=
 kY hi hw hd hk (by rw[ho];exact G5 hx hc) h
theorem rG {P:Program} {w:World} {t e:TypeId} {ps rs:Array TypeId} {i:TypeInfo} (h0:ps[0]? =some t) (hu:P.underlying t=some (.slice e)) (hi:P.info? e=some i) (A:Option Addr) (b:Addr) (la ca lb cb:Nat) {cb':Array Value} {tb:TypeId} (hb:w.heap[b.block]? =some (.cells cb' tb (0,0)))
  (hA:0 < la→∃a v,A=some a∧a.block≠b.block∧w.cell? a=some v):
  (Extern.SlicesOverlaps.overlaps ps rs #[.slice A la ca,.slice (some b) lb cb]).run P w=.ok (.bool false) w:=by
 unfold Extern.SlicesOverlaps.overlaps
 rw[show ∀h1 h2,Extern.SlicesOverlaps.overlaps.match_4 (fun _=>Sem Value) #[.slice A la ca,.slice (some b) lb cb] h1 h2=h1 A la ca (some b) lb cb from fun _ _=>rfl]
 cases A with
 |none=>simp[h0,run_underlying hu,sizeOf,typeInfo,hi]
 |some a=>
  by_cases hz:la=0∨lb=0∨i.size=0
  ·simp[h0,run_underlying hu,sizeOf,typeInfo,hi,hz]
  ·obtain⟨a',v,e,hne,hc⟩:=hA (by omega)
   cases e
   have hsh:∃c ta fa,w.heap[a.block]? =some (.cells c ta fa)∧0 < c.size:=by
    unfold World.cell? at hc
    split at hc
    ·rename_i c ta fa hh
     refine⟨c,ta,fa,hh,?_⟩
     split at hc
     ·cases hc
     ·have:=(Array.getElem?_eq_some_iff.1 hc).1
      omega
    ·cases hc
   obtain⟨c,ta,⟨lo,hi'⟩,hh,hpos⟩:=hsh
   have hcs:¬c.size=0:=by omega
   have fb:w.frozen? b=false:=by simp[World.frozen?,hb]
   have fb2:∀n,w.frozen? {block:=b.block,off:=n}=false:=by simp[World.frozen?,hb]
   have sa:w.shape? a.block=some (ta,c.size):=by simp[World.shape?,hh]
   have sb:w.shape? b.block=some (tb,cb'.size):=by simp[World.shape?,hb]
   cases fa:w.frozen? a<;>cases fa2:w.frozen? {block:=a.block,off:=c.size}<;>simp[h0,run_underlying hu,sizeOf,typeInfo,hi,hz,hne,fa,fa2,fb,fb2,noView,viewAt,sa,sb,mayBeOne,stringish,hcs]
theorem a6k {P:Program} {τ:Tab} {ops:Array Oper} {cls:Nat→fZ} {Q:AX→AF→aI→Prop} {ds:List bH} {ls:List Nat} {i:Nat} {o:Oper} {t:List (Nat×AV)} {M:aI} (hτ:TabOK P τ) (hi:ops[i]? =some o) (hw:aV ops ⟨t,ds⟩ o=some true) (hd:o.dst=none) (hc:qJ (cls i)=true) {ty:TypeId} {x y:Operand} (ho:o.op=.store ty x y) {id off:Nat} {l:List AV} {z:AV}
  (hx:AF.ev ⟨t,ds⟩ x=.ptr id off) (hy:AF.ev ⟨t,ds⟩ y=z) {ti:TI} (ht:aK τ ty=some ti) (hz:z.solid=true) (hzc:z.cells.length=ti.size) (hM:M.get id=some (.cells l)) (hl:off+ti.size≤l.length)
  (h:DW P ops cls Q ds ls t (M.set id (.cells (bA l off z.cells)))):DW P ops cls Q ds (i::ls) t M:=by
 subst hy
 exact G2 hi hw hd hc (x:=.top) (by rw[ho];exact uK hτ ht hx hM hz hzc hl) h
end Go.Ab
namespace Go.Proofs.YthnhbmlefiafaaaGreatDoor
open Go.Ab
theorem o9 {cells xs:List AV} {sz i:Nat} (hs:∀x,x∈xs→x.cells.length=sz) (hx:cells.take (xs.length*sz)=b9 xs) (hi:i≤xs.length):(cells.drop (i*sz)).take ((xs.length - i)*sz)=b9 (xs.drop i)∧cells.take (i*sz)=b9 (xs.take i)∧(b9 (xs.drop i)).length=(xs.length - i)*sz:=by
 have e1:(xs.length - i)*sz=xs.length*sz - i*sz:=Nat.sub_mul _ _ _
 refine⟨by rw[e1,←List.drop_take,hx,vQ i hs],?_,?_⟩
 ·rw[←vS i hs,←hx,List.take_take,Nat.min_eq_left (Nat.mul_le_mul_right _ hi)]
 ·rw[cC fun x hx=>hs x (List.mem_of_mem_drop hx),List.length_drop]
theorem MF {l cells xs xc:List AV} {sz i:Nat} (hs:∀x,x∈xs→x.cells.length=sz) (hx:cells.take (xs.length*sz)=b9 xs) (hi:i≤xs.length) (hc:xc.length=sz) (hl:(xs.length+1)*sz≤l.length) (ht:l.take (i*sz)=cells.take (i*sz)):
  (bA (bA l (i*sz) xc) ((i+1)*sz) (b9 (xs.drop i))).take ((xs.length+1)*sz)=b9 (xs.take i)++xc++b9 (xs.drop i):=by
 obtain⟨_,h2,h3⟩:=o9 hs hx hi
 have e1:(xs.length+1)*sz=(i+1)*sz+(b9 (xs.drop i)).length:=by
  rw[h3,←Nat.add_mul]
  congr 1
  omega
 have e2:(i+1)*sz=i*sz+xc.length:=by rw[hc,Nat.add_mul];omega
 rw[e1,iL (by rw[bN];omega)]
 congr 1
 rw[e2,iL (by omega),ht,h2]
theorem NA {cells xs xc:List AV} {sz i:Nat} (hs:∀x,x∈xs→x.cells.length=sz) (hx:cells.take (xs.length*sz)=b9 xs) (hi:i≤xs.length) (hc:xc.length=sz) (hl:(xs.length+1)*sz≤cells.length):
  (bA (bA cells ((i+1)*sz) (b9 (xs.drop i))) (i*sz) xc).take ((xs.length+1)*sz)=b9 (xs.take i)++xc++b9 (xs.drop i):=by
 obtain⟨_,h2,h3⟩:=o9 hs hx hi
 have e1:(xs.length+1)*sz=(i+1)*sz+(b9 (xs.drop i)).length:=by
  rw[h3,←Nat.add_mul]
  congr 1
  omega
 have e2:(i+1)*sz=i*sz+xc.length:=by rw[hc,Nat.add_mul];omega
 have e3:=iL (l:=cells) (n:=(i+1)*sz) (cs:=b9 (xs.drop i)) (by omega)
 have e4:(bA cells ((i+1)*sz) (b9 (xs.drop i))).take (i*sz)=b9 (xs.take i):=by
  rw[qL (by omega) (by omega),h2]
 rw[e1]
 have hlen:(bA cells ((i+1)*sz) (b9 (xs.drop i))).length=cells.length:=bN _ _ _
 generalize bA cells ((i+1)*sz) (b9 (xs.drop i))=m at e3 e4 hlen ⊢
 rw[rQ (by omega),e4,e2,List.append_assoc,List.append_assoc]
 have a1:(b9 (xs.take i)).length=i*sz:=by rw[←h2,List.length_take];omega
 have a2:i*sz+xc.length+(b9 (xs.drop i)).length=(b9 (xs.take i)).length+(xc.length+(b9 (xs.drop i)).length):=by omega
 rw[a2,List.take_length_add_append,List.take_length_add_append,←e2]
 congr 2
 have:=congrArg (List.drop ((i+1)*sz)) e3
 rw[List.drop_take,Nat.add_sub_cancel_left,List.drop_left' (by rw[List.length_take];omega)] at this
 exact this
theorem BY (l:List Sn) (hl:l.length < 1000000) (hne:l≠[]) (M:aI):aS Tryz.prog 85 [bU l .none] M (fun e N=>∃cap cells,e=.ret (.osl M.next 0 l.length cap 4)∧N=M.push (.cells cells)∧l.length≤cap∧cells.length=cap*4∧cells.take (l.length*4)=b9 (l.map Sn.av)):=by
 refine aC aF Tryz.func85 rfl (by decide) (by simp[Tryz.f85]) ?_
 unfold bU
 repeat' (first|refine zA rfl ?_|refine aA ?_|refine aJ rfl ?_)
 refine nQ rfl rfl ?_
 intro b hb
 cases b
 ·have hm:l.map Sn.av≠[]:=fun e=>hne (by simpa using e)
  have le:(l.map Sn.av).length=l.length:=by simp
  repeat' (first|refine zA rfl ?_|refine aA ?_|refine aJ rfl ?_|refine zR rfl ?_)
  refine xX aF rfl rfl rfl rfl rfl rfl rfl rfl rfl rfl rfl (.inr rfl) rfl rfl hm (by simp;omega) (by simp;omega) ?_
  intro cap' l' g1 g2 g3
  repeat' (first|refine zA rfl ?_|refine aA ?_|refine aJ rfl ?_)
  rw[le] at g1 g3
  refine⟨rfl,_,rfl,cap',l',?_,rfl,by simpa using g1,g2,?_⟩
  ·rw[le]
   simp
   rfl
  ·simpa [b9] using g3
 ·exact absurd (hb fun e=>hne (by simpa using e)) (by simp)
theorem L3 (M:aI):aS Tryz.prog 85 [bU [] .none] M (fun e N=>∃sz,e=.ret (.sl sz [] .full)∧N=M):=by
 refine aC aF Tryz.func85 rfl (by decide) (by simp[Tryz.f85]) ?_
 unfold bU
 repeat' (first|refine zA rfl ?_|refine aA ?_|refine aJ rfl ?_)
 refine nQ rfl rfl ?_
 intro b hb
 cases b
 ·repeat' (first|refine zA rfl ?_|refine aA ?_|refine aJ rfl ?_|refine zR rfl ?_)
  refine Q4 aF rfl rfl rfl rfl rfl rfl rfl rfl rfl rfl rfl rfl ?_
  repeat' (first|refine zA rfl ?_|refine aA ?_|refine aJ rfl ?_)
  exact⟨rfl,_,rfl,_,rfl,rfl⟩
 ·repeat' (first|refine zA rfl ?_|refine aA ?_|refine aJ rfl ?_)
  exact⟨rfl,_,rfl,_,rfl,rfl⟩
theorem RW (x:Sn) {M:aI} {id off n cap:Nat} {cells:List AV} (hM:M.get id=some (.cells cells)):WI Tryz.prog 149 [.sl 4 [x.av] .full,.osl id off n cap 4] M (.bool false):=by
 intro μ F w vs hg hv
 obtain⟨hl,hr⟩:=hv
 match vs,hl with
 |⟨[a,b]⟩,_=>
  have h1:=hr 0 _ a rfl rfl
  have h2:=hr 1 _ b rfl rfl
  obtain⟨blk,hb,rfl⟩:=fD hg hM h2
  obtain⟨b',c,tb,hb1,hb2,_⟩:=hg.obj id cells hM
  rw[hb] at hb1
  cases hb1
  obtain⟨A,capx,b',o,vals,rfl,hsz,hcap,hA,hat,_⟩:=h1.sl_flat
  have h0:=hat 0 (.int .i64 x.client) rfl
  refine⟨_,?_,.bool _⟩
  have:=run_callFunc_extern (P:=Tryz.prog) Tryz.func149 (by kernel_rfl) (by kernel_rfl) (by kernel_rfl) (e:=Extern.SlicesOverlaps.overlaps #[38,38] #[4]) (by kernel_rfl) #[.slice A [x.av].length capx,.slice (some ⟨blk,off,none⟩) n cap] w
  obtain⟨ft,dt,zt,HT⟩:=TI.spec aF (t:=38) rfl
  obtain⟨fe,de,ze,HE⟩:=TI.spec aF (t:=91) rfl
  rw[rG (t:=38) (e:=91) rfl Tryz.underlying38 HE.info A ⟨blk,off,none⟩ _ _ _ _ hb2 (fun _=>⟨⟨b',o,none⟩,vals 0,hA (by simp),?_,h0.cell⟩)] at this
  ·exact this
  ·rintro rfl
   exact h0.free.2 ⟨id,.inl hb⟩
def a8p (xs:List AV) (i:Nat) (x:Sn) (e:dG) (N:aI):Prop:=∃(id' cap':Nat) (cells':List AV),e=.ret (.osl id' 0 (xs.length+1) cap' 4)∧N.get id'=some (.cells cells')∧xs.length+1≤cap'∧cells'.length=cap'*4∧cells'.take ((xs.length+1)*4)=b9 (xs.take i)++x.av.cells++b9 (xs.drop i)
theorem LW (M:aI) (id cap i:Nat) (cells xs:List AV) (x:Sn) (hid:id < M.next) (hM:M.get id=some (.cells cells)) (hs:∀x,x∈xs→x.cells.length=4) (hx:cells.take (xs.length*4)=b9 xs) (hc:xs.length≤cap) (hl:cells.length=cap*4) (hi:i≤xs.length) (hsz:xs.length < 1000000):
  aS Tryz.prog 100 [.osl id 0 xs.length cap 4,.int .i64 (i:Int),.sl 4 [x.av] .full] M (a8p xs i x):=by
 refine aC aF Tryz.func100 rfl (by decide) (by simp[Tryz.f100]) ?_
 obtain⟨p1,p2,p3⟩:=o9 hs hx hi
 have d0:decide ((([x.av].length:Nat):Int)=0)=false:=rfl
 have hxc:x.av.cells.length=4:=rfl
 have hfx:b9 [x.av]=x.av.cells:=by simp[b9]
 repeat' (first|refine zA rfl ?_|refine aA ?_|refine aJ rfl ?_)
 refine gJ aF rfl rfl rfl rfl rfl rfl rfl rfl rfl rfl hM rfl rfl hi hc rfl rfl rfl ?_
 repeat' (first|refine zB rfl d0 ?_|refine zA rfl ?_|refine aA ?_|refine aJ rfl ?_)
 refine sQ aF rfl rfl rfl rfl rfl rfl hM rfl rfl ?_
 by_cases h1:i=xs.length
 ·have d1:decide ((i:Int)=(xs.length:Int))=true:=decide_eq_true (by omega)
  repeat' (first|refine zB rfl (by first|exact d0|exact d1) ?_|refine zA rfl ?_|refine aA ?_|refine aJ rfl ?_)
  refine nM aF rfl rfl rfl rfl rfl (l:=cells) rfl hM rfl rfl rfl rfl rfl rfl rfl rfl hl hc (by simp;omega) (by simp;omega) ?_
  intro cap' l' g1 g2 g3
  repeat' (first|refine zA rfl ?_|refine aA ?_|refine aJ rfl ?_)
  subst h1
  refine⟨rfl,_,rfl,_,cap',l',rfl,gV,g1,g2,?_⟩
  rw[List.take_length,List.drop_length,←hx]
  simpa [b9] using g3
 ·have d1:decide ((i:Int)=(xs.length:Int))=false:=decide_eq_false (by omega)
  have f1:=aQ (i:=xs.length) (by omega)
  by_cases h2:cap < xs.length+1
  ·have d2:decide (((xs.length+1:Nat):Int) > (cap:Int))=true:=decide_eq_true (by omega)
   have f2:IntKind.wrap .i64 (((xs.length+1:Nat):Int) - (i:Int))=((xs.length+1 - i:Nat):Int):=by
    rw[Go.Ab.wrap_small (i:=((xs.length+1:Nat):Int) - (i:Int)) (by omega) (by omega)]
    omega
   have f3:=aQ (i:=i) (by omega)
   repeat' (first|refine zB rfl (by first|exact d0|exact d1) ?_|refine zI rfl f1 ?_|refine zA rfl ?_|refine aA ?_|refine aJ rfl ?_)
   refine QP aF rfl rfl rfl rfl rfl rfl hM rfl rfl ?_
   repeat' (first|refine zB rfl (by first|exact d0|exact d2) ?_|refine zA rfl ?_|refine aA ?_|refine aJ rfl ?_)
   refine gJ aF rfl rfl rfl rfl rfl rfl rfl rfl rfl rfl hM rfl rfl (Nat.zero_le i) (by omega) (off':=0) (by split<;>rfl) (Nat.sub_zero _) (Nat.sub_zero _) ?_
   repeat' (first|refine zI rfl (by first|exact f1|exact f2) ?_|refine zA rfl ?_)
   refine TV aF rfl rfl rfl rfl rfl rfl rfl rfl rfl rfl rfl rfl rfl rfl hM hl (by omega) (by omega) (by omega) (by simp;omega) (by omega) ?_
   intro cap' l' g1 g2 g3
   have hn:i+(xs.length+1 - i)=xs.length+1:=by omega
   rw[hn] at g1 ⊢
   have hM2:(M.push (.cells l')).get M.next=some (.cells l'):=gV
   have hM3:(M.push (.cells l')).get id=some (.cells cells):=by rw[aI.get_push,if_neg (by omega)];exact hM
   have hne:id≠M.next:=by omega
   generalize M.push (.cells l')=M2 at hM2 hM3
   generalize M.next=id2 at hM2 hne
   repeat' (first|refine zA rfl ?_|refine aA ?_|refine aJ rfl ?_)
   refine gJ aF rfl rfl rfl rfl rfl rfl rfl rfl rfl rfl hM2 rfl rfl (by omega) g1 (off':=i*4) (by rw[if_pos (by omega),Nat.zero_add]) rfl rfl ?_
   repeat' (first|refine zA rfl ?_)
   refine sJ aF rfl rfl rfl rfl rfl rfl rfl rfl rfl rfl hM2 (by omega) (m:=1) (k:=1) (.inl ⟨_,_,rfl,rfl,rfl,fun y hy=>by simp at hy;rw[hy];rfl⟩) (Nat.min_eq_left (by omega)) (cs':=x.av.cells) (by simp[b9];rfl) ?_
   have hM4:(M2.set id2 (.cells (bA l' (i*4) x.av.cells))).get id2=some (.cells (bA l' (i*4) x.av.cells)):=cW
   have hM5:(M2.set id2 (.cells (bA l' (i*4) x.av.cells))).get id=some (.cells cells):=by rw[aI.get_set,if_neg hne];exact hM3
   have hl2:(bA l' (i*4) x.av.cells).length=cap'*4:=by rw[bN,g2]
   have hfin:=MF hs hx hi hxc (by omega) g3
   generalize M2.set id2 (.cells (bA l' (i*4) x.av.cells))=M4 at hM4 hM5
   generalize bA l' (i*4) x.av.cells=l4 at hM4 hl2 hfin
   repeat' (first|refine zI rfl (by first|exact f1|exact f3) ?_|refine zA rfl ?_|refine aA ?_|refine aJ rfl ?_|refine aO mixed [0,1,2,3,5,6,4,7,8] [.P,.P,.P,.P,.R,.P,.P,.R,.E] rfl rfl (by kernel_rfl) ?_)
   refine gJ aF rfl rfl rfl rfl rfl rfl rfl rfl rfl rfl hM4 rfl rfl (by omega) g1 (off':=(i+1)*4) (by rw[if_pos (by omega),Nat.zero_add]) rfl rfl ?_
   skip
   refine gJ aF rfl rfl rfl rfl rfl rfl rfl rfl rfl rfl hM5 rfl rfl hi hc (off':=i*4) (by rw[if_pos (by omega),Nat.zero_add]) rfl rfl ?_
   skip
   refine sJ aF rfl rfl rfl rfl rfl rfl rfl rfl rfl rfl hM4 (by omega) (k:=xs.length - i) (.inr ⟨_,_,_,_,rfl,hM5,by omega,rfl⟩) (Nat.min_eq_left (by omega)) (cs':=b9 (xs.drop i)) (by rw[p1,←p3,List.take_length]) ?_
   repeat' (first|refine zA rfl ?_|refine aA ?_|refine aJ rfl ?_)
   exact⟨rfl,_,rfl,_,cap',_,rfl,cW,g1,by rw[bN,hl2],hfin⟩
  ·have d2:decide (((xs.length+1:Nat):Int) > (cap:Int))=false:=decide_eq_false (by omega)
   have f3:=aQ (i:=i) (by omega)
   repeat' (first|refine zB rfl (by first|exact d0|exact d1) ?_|refine zI rfl f1 ?_|refine zA rfl ?_|refine aA ?_|refine aJ rfl ?_)
   refine QP aF rfl rfl rfl rfl rfl rfl hM rfl rfl ?_
   repeat' (first|refine zB rfl (by first|exact d0|exact d2) ?_|refine zI rfl f1 ?_|refine zA rfl ?_|refine aA ?_|refine aJ rfl ?_)
   refine gJ aF rfl rfl rfl rfl rfl rfl rfl rfl rfl rfl hM rfl rfl (Nat.zero_le _) (by omega) (off':=0) (by split<;>rfl) (Nat.sub_zero _) (Nat.sub_zero _) ?_
   repeat' (first|refine zI rfl (by first|exact f1|exact f3) ?_|refine zA rfl ?_|refine aA ?_|refine aJ rfl ?_)
   refine gJ aF rfl rfl rfl rfl rfl rfl rfl rfl rfl rfl hM rfl rfl (by omega) (by omega) rfl rfl rfl ?_
   skip
   refine a1l rfl rfl rfl rfl rfl rfl (RW x hM) ?_
   repeat' (first|refine zI rfl (by first|exact f1|exact f3) ?_|refine zA rfl ?_|refine aA ?_|refine aJ rfl ?_|refine aO mixed [0,1,2,3,5,6,4,7,8] [.P,.P,.P,.P,.R,.P,.P,.R,.E] rfl rfl (by kernel_rfl) ?_)
   refine gJ aF rfl rfl rfl rfl rfl rfl rfl rfl rfl rfl hM rfl rfl (by omega) (by omega) (off':=(i+1)*4) (by rw[if_pos (by omega),Nat.zero_add]) (n':=xs.length - i) (by omega) rfl ?_
   skip
   refine gJ aF rfl rfl rfl rfl rfl rfl rfl rfl rfl rfl hM rfl rfl (by omega) (by omega) (off':=i*4) (by rw[if_pos (by omega),Nat.zero_add]) rfl rfl ?_
   skip
   have e8:(xs.length - i)*4≤(xs.length+1 - i)*4:=Nat.mul_le_mul_right _ (by omega)
   refine sJ aF rfl rfl rfl rfl rfl rfl rfl rfl rfl rfl hM (by omega) (k:=xs.length - i) (.inr ⟨_,_,_,_,rfl,hM,by omega,rfl⟩) (Nat.min_eq_right (by omega)) (cs':=b9 (xs.drop i)) (by rw[List.take_take,Nat.min_eq_left e8,p1]) ?_
   have hM4:(M.set id (.cells (bA cells ((i+1)*4) (b9 (xs.drop i))))).get id=some (.cells (bA cells ((i+1)*4) (b9 (xs.drop i)))):=cW
   have hl2:(bA cells ((i+1)*4) (b9 (xs.drop i))).length=cap*4:=by rw[bN,hl]
   have hfin:=NA hs hx hi hxc (by omega)
   generalize M.set id (.cells (bA cells ((i+1)*4) (b9 (xs.drop i))))=M4 at hM4
   generalize bA cells ((i+1)*4) (b9 (xs.drop i))=l4 at hM4 hl2 hfin
   repeat' (first|refine zA rfl ?_|refine aA ?_|refine aJ rfl ?_)
   refine gJ aF rfl rfl rfl rfl rfl rfl rfl rfl rfl rfl hM4 rfl rfl (by omega) (by omega) (off':=i*4) (by rw[if_pos (by omega),Nat.zero_add]) rfl rfl ?_
   repeat' (first|refine zA rfl ?_)
   refine sJ aF rfl rfl rfl rfl rfl rfl rfl rfl rfl rfl hM4 (by omega) (m:=1) (k:=1) (.inl ⟨_,_,rfl,rfl,rfl,fun y hy=>by simp at hy;rw[hy];rfl⟩) (Nat.min_eq_left (by omega)) (cs':=x.av.cells) (by simp[b9];rfl) ?_
   repeat' (first|refine zA rfl ?_|refine aA ?_|refine aJ rfl ?_)
   exact⟨rfl,_,rfl,_,cap,_,rfl,cW,by omega,by rw[bN,hl2],hfin⟩
theorem xH {N:aI} {x:AV} {m:List Sn} {n:Int} (h:gB 0 N x (bU m .none)):gB 0 N (.tup [x,.int .i64 n]) (saA (m,n)):=by
 refine .tup _ _ rfl fun i a b ha hb=>?_
 match i,ha,hb with
 |0,ha,hb=>cases ha;cases hb;exact h
 |1,ha,hb=>cases ha;cases hb;exact .closed aB
 |i+2,ha,hb=>simp at ha
theorem QE (l:List Sn):∀x,x∈l.map Sn.av→x.cells.length=4:=fun x hx=>by
 obtain⟨p,_,rfl⟩:=List.mem_map.1 hx
 rfl
theorem RB (l:List Sn):∀x,x∈l.map Sn.av→∃cs,x=.agg cs∧cs.length=4∧∀c,c∈cs→aP c:=fun x hx=>by
 obtain⟨p,_,rfl⟩:=List.mem_map.1 hx
 exact⟨_,rfl,rfl,rF p⟩
theorem S5 {cells xs xc:List AV} {sz i:Nat} (hs:∀x,x∈xs→x.cells.length=sz) (hx:cells.take (xs.length*sz)=b9 xs) (hi:i < xs.length) (hc:xc.length=sz) (hl:xs.length*sz≤cells.length):
  (bA cells (i*sz) xc).take (xs.length*sz)=b9 (xs.take i)++xc++b9 (xs.drop (i+1)):=by
 obtain⟨p1,_,p3⟩:=o9 (i:=i+1) hs hx hi
 obtain⟨_,p2,_⟩:=o9 (i:=i) hs hx (by omega)
 have e2:(i+1)*sz=i*sz+xc.length:=by rw[hc,Nat.add_mul];omega
 have e5:(i+1)*sz≤xs.length*sz:=Nat.mul_le_mul_right _ hi
 have e1:xs.length*sz=(b9 (xs.take i)).length+(xc.length+(xs.length - (i+1))*sz):=by
  have a1:(b9 (xs.take i)).length=i*sz:=by rw[←p2,List.length_take];omega
  rw[a1,←Nat.add_assoc,←e2,←Nat.add_mul]
  congr 1
  omega
 rw[rQ (by omega),p2,←e2,List.append_assoc,List.append_assoc,e1,List.take_length_add_append,List.take_length_add_append,p1]
theorem vR {N:aI} {id cap n:Nat} {cells:List AV} {m:List Sn} (hM:N.get id=some (.cells cells)) (hn:m.length=n) (hx:cells.take (n*4)=b9 (m.map Sn.av)) (hc:n≤cap) (hl:cells.length=cap*4):gB 0 N (.osl id 0 n cap 4) (bU m .none):=by
 subst hn
 have el:(m.map Sn.av).length=m.length:=by simp
 have:=AI (sz:=4) (cap:=cap) (xs:=m.map Sn.av) hM (by rw[el];exact hx) (by omega) hl (RB m)
 rw[el] at this
 exact this
theorem zS (l:List Sn) (s:Sn) (i k:Nat):b9 ((l.map Sn.av).take i)++s.av.cells++b9 ((l.map Sn.av).drop k)=b9 ((l.take i++s::l.drop k).map Sn.av):=by
 rw[List.map_append,fN,List.map_cons,List.map_take,List.map_drop,List.append_assoc]
 rfl
theorem GT (M:aI) (x:Sn):aS Tryz.prog 100 [.sl 4 [] .full,.int .i64 ((0:Nat):Int),.sl 4 [x.av] .full] M (a8p [] 0 x):=by
 refine aC aF Tryz.func100 rfl (by decide) (by simp[Tryz.f100]) ?_
 have d0:decide ((([x.av].length:Nat):Int)=0)=false:=rfl
 have d1:decide (((0:Nat):Int)=(([]:List AV).length:Int))=true:=rfl
 have hs0:(0:Int)≤((0:Nat):Int)∧((0:Nat):Int)≤(([]:List AV).length:Int)∧(([]:List AV).length:Int)≤(([]:List AV).length:Int)∧((([]:List AV).take (([]:List AV).length:Int).toNat).drop ((0:Nat):Int).toNat)=[]:=⟨Int.le_refl _,Int.le_refl _,Int.le_refl _,rfl⟩
 repeat' (first|refine zB rfl (by first|exact d0|exact d1) ?_|refine zA rfl ?_|refine aA ?_|refine aJ rfl ?_|refine i5 aF rfl (hs0) ?_)
 refine xX aF rfl rfl rfl rfl rfl rfl rfl rfl rfl rfl rfl (.inr rfl) rfl rfl (by simp) (by simp) (by simp) ?_
 intro cap' l' g1 g2 g3
 repeat' (first|refine zA rfl ?_|refine aA ?_|refine aJ rfl ?_)
 exact⟨rfl,_,rfl,_,cap',l',rfl,gV,by simpa using g1,g2,by simpa [b9] using g3⟩
theorem X5 (l:List Sn) (s:Sn) (hl:l.length < 100000):aS Tryz.prog 53 [bU l .none,s.av] ⟨0,[]⟩ (fun e N=>∃x,e=.ret x∧gB 0 N x (saA (nG l s))∧0≤N.next∧gU 0 N []):=by
 refine aC aF Tryz.func53 rfl (by decide) (by simp[Tryz.f53]) ?_
 have la:=aU Sn.av l
 have k0:=A7 l .none (.inl rfl) (by omega) s.client
 have k1:=C0 l (by omega)
 have k2:=OZ s
 have k3:=VE l .none (.inl rfl) (by omega) s.client
 have k4:=uM l .none (by omega) s.client 97 (eV s.client) (fun x=>YJ x s.client)
 have k5:=uM l .none (by omega) s.client 98 (fun x=>!iE s.client x) (fun x=>L2 x s.client)
 have err:∀{N:aI} (n:Int),∃x,dG.ret (.tup [.sl 0 [] .full,.int .i64 n])=.ret x∧gB 0 N x (saA ([],n))∧0≤N.next∧gU 0 N []:=fun n=>⟨_,rfl,xH AC,Nat.zero_le _,trivial⟩
 unfold dfA at k0
 unfold nG
 unfold lS
 generalize nZ l s.client=fs at k0
 cases h1:gW fB Sn.client none l&&decide (l.length≤50)
 ·rw[h1] at k1
  unfold bU at*
  repeat' (first|refine zA rfl ?_|refine aA ?_|refine aJ rfl ?_|refine aD rfl k0 ?_|refine aD rfl k1 ?_)
  exact⟨rfl,_,rfl,err 1⟩
 ·rw[h1] at k1
  cases h2:fB s
  ·rw[h2] at k2
   unfold bU at*
   repeat' (first|refine zA rfl ?_|refine aA ?_|refine aJ rfl ?_|refine aD rfl k0 ?_|refine aD rfl k1 ?_|refine aD rfl k2 ?_)
   exact⟨rfl,_,rfl,err 1⟩
  ·rw[h2] at k2
   rw[if_pos (by rfl)]
   have h50:l.length≤50:=by simp at h1;exact h1.2
   obtain⟨_,hup⟩:=nB (by simp at h1;exact h1.1:gW fB Sn.client none l=true)
   by_cases h3:s.seq≤jP l s.client
   ·have d3:decide (s.seq≤jP l s.client)=true:=decide_eq_true h3
    rw[if_pos h3]
    unfold bU at*
    repeat' (first|refine zB rfl d3 ?_|refine zA rfl ?_|refine aA ?_|refine aJ rfl ?_|refine aD rfl k0 ?_|refine aD rfl k1 ?_|refine aD rfl k2 ?_|refine aD rfl k3 ?_|refine aO (id:=4) mixed [2,0,1,3,4,5,6,7] [.R,.R,.P,.R,.P,.P,.P,.P] rfl rfl (by kernel_rfl) ?_)
    exact⟨rfl,_,rfl,err 180⟩
   ·have d3:decide (s.seq≤jP l s.client)=false:=decide_eq_false h3
    rw[if_neg h3]
    rcases yU l (eV s.client) with ⟨e1,e2,e3⟩|⟨i,x,hi,hx,hpx,hno,e2,e3,e1⟩
    ·rw[e1] at k0
     by_cases h5:l.length=50
     ·have d5:decide ((l.length:Int)=50)=true:=decide_eq_true (by omega)
      rw[if_pos ⟨e1,by omega⟩]
      unfold bU at*
      repeat' (first|refine zB rfl (by first|exact d3|exact d5) ?_|refine zI rfl la ?_|refine zA rfl ?_|refine aA ?_|refine aJ rfl ?_|refine aD rfl k0 ?_|refine aD rfl k1 ?_|refine aD rfl k2 ?_|refine aD rfl k3 ?_|refine aO (id:=4) mixed [2,0,1,3,4,5,6,7] [.R,.R,.P,.R,.P,.P,.P,.P] rfl rfl (by kernel_rfl) ?_)
      exact⟨rfl,_,rfl,err 2⟩
     ·have d5:decide ((l.length:Int)=50)=false:=decide_eq_false (by omega)
      rw[if_neg (fun h=>h5 (by omega))]
      have hfi:=H5 l (fun x=>!iE s.client x)
      have hins:iZ l s=l.take (l.findIdx fun x=>!iE s.client x)++s::l.drop (l.findIdx fun x=>!iE s.client x):=by
       refine pL hfi (fun j d hj hd=>?_) (.inr ⟨rfl,fun d hd=>?_⟩)
       ·have:=List.not_of_lt_findIdx hj
        obtain⟨hjl,rfl⟩:=List.getElem?_eq_some_iff.1 hd
        simpa [iE] using this
       ·obtain⟨hjl,rfl⟩:=List.getElem?_eq_some_iff.1 hd
        have a1:=List.findIdx_getElem (w:=hjl)
        rw[List.any_eq_false] at e1
        have a2:=e1 _ (List.getElem_mem hjl)
        generalize l[l.findIdx fun x=>!iE s.client x]=d at a1 a2
        simp[iE] at a1
        simp[eV] at a2
        exact⟨by omega,a2⟩
      generalize (l.findIdx fun x=>!iE s.client x)=i at*
      by_cases h0:l=[]
      ·subst h0
       have kc:=L3
       unfold bU at*
       repeat' (first|refine zB rfl (by first|exact d3|exact d5) ?_|refine zI rfl la ?_|refine zA rfl ?_|refine aA ?_|refine aJ rfl ?_|refine aD rfl k0 ?_|refine aD rfl k1 ?_|refine aD rfl k2 ?_|refine aD rfl k3 ?_|refine aO (id:=4) mixed [2,0,1,3,4,5,6,7] [.R,.R,.P,.R,.P,.P,.P,.P] rfl rfl (by kernel_rfl) ?_)
       refine cU rfl rfl (kc _) ?_ (fun u M' h=>by obtain⟨_,h,_⟩:=h;cases h)
       rintro u M' ⟨sz,e,rfl⟩
       cases e
       obtain rfl:i=0:=by simpa using hfi
       repeat' (first|refine zB rfl (by first|exact d3|exact d5) ?_|refine zA rfl ?_|refine aA ?_|refine aJ rfl ?_|refine aD rfl k5 ?_|refine zR rfl ?_|refine aO mixed [0,1,4,6,7,2,3,5,8,9,10] [.P,.P,.R,.R,.P,.P,.P,.P,.E,.P,.P] rfl rfl (by kernel_rfl) ?_)
       have ki:=fun (M:aI)=>(GT M s).sub (args:=[.sl sz [] .full,.int .i64 ((0:Nat):Int),.sl 4 [s.av] .full]) rfl (fun i x y hx hy=>by
        match i,hx,hy with
        |0,hx,hy=>cases hx;cases hy;exact Sub.empty (.inr rfl)
        |1,hx,hy=>cases hx;cases hy;exact Sub.refl
        |2,hx,hy=>cases hx;cases hy;exact Sub.refl
        |i+3,hx,hy=>simp at hx)
       refine cU rfl rfl (ki _) ?_ (fun u M' h=>by obtain⟨_,_,_,h,_⟩:=h;cases h)
       rintro u M' ⟨id',cap',cells',e,g1,g2,g3,g4⟩
       cases e
       repeat' (first|refine zA rfl ?_|refine aA ?_|refine aJ rfl ?_)
       have g5:=zS [] s 0 0
       rw[←hins] at g5
       refine⟨rfl,_,rfl,_,rfl,?_,Nat.zero_le _,trivial⟩
       exact xH (vR g1 (by rw[hins];rfl) (g4.trans g5) g2 g3)
      ·have kc:=BY l (by omega) h0
       unfold bU at*
       repeat' (first|refine zB rfl (by first|exact d3|exact d5) ?_|refine zI rfl la ?_|refine zA rfl ?_|refine aA ?_|refine aJ rfl ?_|refine aD rfl k0 ?_|refine aD rfl k1 ?_|refine aD rfl k2 ?_|refine aD rfl k3 ?_|refine aO (id:=4) mixed [2,0,1,3,4,5,6,7] [.R,.R,.P,.R,.P,.P,.P,.P] rfl rfl (by kernel_rfl) ?_)
       refine cU rfl rfl (kc _) ?_ (fun u M' h=>by obtain⟨_,_,h,_⟩:=h;cases h)
       rintro u M' ⟨cap,cells,e,rfl,f1,f2,f3⟩
       cases e
       have le:(l.map Sn.av).length=l.length:=by simp
       repeat' (first|refine zA rfl ?_|refine aA ?_|refine aJ rfl ?_|refine aD rfl k5 ?_|refine zR rfl ?_|refine aO mixed [0,1,4,6,7,2,3,5,8,9,10] [.P,.P,.R,.R,.P,.P,.P,.P,.E,.P,.P] rfl rfl (by kernel_rfl) ?_)
       have ki:=fun (M:aI) (h1:1 < M.next) (h2:M.get 1=some (.cells cells))=>LW M 1 cap i cells (l.map Sn.av) s h1 h2 (QE l) (by rw[le];exact f3) (by omega) f2 (by omega) (by omega)
       rw[le] at ki
       refine cU rfl rfl (ki _ (by show 1 < 2;omega) rfl) ?_ (fun u M' h=>by obtain⟨_,_,_,h,_⟩:=h;cases h)
       rintro u M' ⟨id',cap',cells',e,g1,g2,g3,g4⟩
       cases e
       repeat' (first|refine zA rfl ?_|refine aA ?_|refine aJ rfl ?_)
       rw[le] at g2 g4
       rw[zS,←hins] at g4
       have hil:(iZ l s).length=l.length+1:=by rw[hins];simp;omega
       refine⟨rfl,_,rfl,_,rfl,?_,Nat.zero_le _,trivial⟩
       rw[le]
       exact xH (vR g1 hil g4 g2 g3)
    ·rw[e1] at k0
     rw[e2] at k4
     rw[if_neg (by simp[e1])]
     have hne:l≠[]:=by rintro rfl;simp at hx
     have hcl:x.client=s.client:=by simpa [eV] using hpx
     have hins:iZ l s=l.take i++s::l.drop (i+1):=by
      refine pL (Nat.le_of_lt hi) (fun j d hj hd=>?_) (.inl ⟨rfl,x,hx,hcl⟩)
      rw[←hcl]
      obtain⟨hjl,rfl⟩:=List.getElem?_eq_some_iff.1 hd
      obtain⟨hil,rfl⟩:=List.getElem?_eq_some_iff.1 hx
      exact List.pairwise_iff_getElem.1 hup j i hjl hil hj
     have kc:=BY l (by omega) hne
     unfold bU at*
     repeat' (first|refine zB rfl d3 ?_|refine zA rfl ?_|refine aA ?_|refine aJ rfl ?_|refine aD rfl k0 ?_|refine aD rfl k1 ?_|refine aD rfl k2 ?_|refine aD rfl k3 ?_|refine aO (id:=4) mixed [2,0,1,3,4,5,6,7] [.R,.R,.P,.R,.P,.P,.P,.P] rfl rfl (by kernel_rfl) ?_)
     refine cU rfl rfl (kc _) ?_ (fun u M' h=>by obtain⟨_,_,h,_⟩:=h;cases h)
     rintro u M' ⟨cap,cells,e,rfl,f1,f2,f3⟩
     cases e
     have le:(l.map Sn.av).length=l.length:=by simp
     repeat' (first|refine zA rfl ?_|refine aA ?_|refine aJ rfl ?_|refine aD rfl k4 ?_|refine aO (id:=10) mixed [0,1,5,2,3,4,6,7] [.P,.P,.R,.R,.P,.P,.R,.E] rfl rfl (by kernel_rfl) ?_)
     refine a16 aF rfl rfl rfl rfl rfl rfl rfl rfl rfl rfl rfl rfl (by omega) (by omega) ?_
     skip
     have e9:0+(i:Int).toNat*4=i*4:=by simp
     refine a6k aF rfl rfl rfl rfl rfl rfl rfl rfl rfl rfl rfl (by rw[e9];show i*4+4≤_;omega) ?_
     repeat' (first|refine zA rfl ?_|refine aA ?_|refine aJ rfl ?_)
     have hset:=S5 (i:=i) (xc:=s.av.cells) (QE l) (by rw[le];exact f3) (by omega) rfl (by omega)
     rw[le,zS,←hins] at hset
     have hil:(iZ l s).length=l.length:=by rw[hins];simp;omega
     refine⟨rfl,_,rfl,_,rfl,?_,Nat.zero_le _,trivial⟩
     refine xH (vR cW hil ?_ f1 (by rw[bN,f2]))
     rw[e9]
     exact hset
theorem a36 (l:List Sn) (s:Sn) (hl:l.length < 100000):aN Tryz.prog 53 [bU l .none,s.av] (saA (nG l s)):=B2 (aZ (bQ l (.inl rfl)) (kJ s)) (zH _) (X5 l s hl)
theorem RN (l:List Pr) (hl:l.length < 1000000):aN Tryz.prog 83 [iQ l] (iQ l):=by
 refine aT (aY (c6 l)) (c6 l) ?_
 refine aC aF Tryz.func83 rfl (by decide) (by simp[Tryz.f83]) ?_
 have la:=aU Pr.av l
 have hcl:=c6 l
 unfold iQ at*
 repeat' (first|refine zA rfl ?_|refine aA ?_|refine aJ rfl ?_)
 refine nQ rfl rfl ?_
 intro b hb
 cases b
 ·repeat' (first|refine zA rfl ?_|refine aA ?_|refine aJ rfl ?_|refine zR rfl ?_|refine zQ rfl ?_)
  exact⟨rfl,_,rfl,_,rfl,aH.untag hcl⟩
 ·have hc:l=[]:=by
   by_cases hc:l=[]
   ·exact hc
   ·exact absurd (hb (by simpa using hc)) (by simp)
  subst hc
  repeat' (first|refine zA rfl ?_|refine aA ?_|refine aJ rfl ?_)
  exact⟨rfl,_,rfl,_,rfl,aH.nil⟩
theorem SH (l:List Pn) (hl:l.length < 1000000):aN Tryz.prog 84 [bI l .none] (bI l .none):=by
 refine aT (aY (bP l (t:=.none) (.inl rfl))) (bP l (t:=.none) (.inl rfl)) ?_
 refine aC aF Tryz.func84 rfl (by decide) (by simp[Tryz.f84]) ?_
 have la:=aU Pn.av l
 have hcl:=bP l (t:=.none) (.inl rfl)
 unfold bI at*
 repeat' (first|refine zA rfl ?_|refine aA ?_|refine aJ rfl ?_)
 refine nQ rfl rfl ?_
 intro b hb
 cases b
 ·repeat' (first|refine zA rfl ?_|refine aA ?_|refine aJ rfl ?_|refine zR rfl ?_|refine zQ rfl ?_)
  exact⟨rfl,_,rfl,_,rfl,aH.untag hcl⟩
 ·have hc:l=[]:=by
   by_cases hc:l=[]
   ·exact hc
   ·exact absurd (hb (by simpa using hc)) (by simp)
  subst hc
  repeat' (first|refine zA rfl ?_|refine aA ?_|refine aJ rfl ?_)
  exact⟨rfl,_,rfl,_,rfl,aH.nil⟩
theorem TH (l:List Sn) (hl:l.length < 1000000):aN Tryz.prog 85 [bU l .none] (bU l .none):=by
 refine aT (aY (bQ l (t:=.none) (.inl rfl))) (bQ l (t:=.none) (.inl rfl)) ?_
 refine aC aF Tryz.func85 rfl (by decide) (by simp[Tryz.f85]) ?_
 have la:=aU Sn.av l
 have hcl:=bQ l (t:=.none) (.inl rfl)
 unfold bU at*
 repeat' (first|refine zA rfl ?_|refine aA ?_|refine aJ rfl ?_)
 refine nQ rfl rfl ?_
 intro b hb
 cases b
 ·repeat' (first|refine zA rfl ?_|refine aA ?_|refine aJ rfl ?_|refine zR rfl ?_|refine zQ rfl ?_)
  exact⟨rfl,_,rfl,_,rfl,aH.untag hcl⟩
 ·have hc:l=[]:=by
   by_cases hc:l=[]
   ·exact hc
   ·exact absurd (hb (by simpa using hc)) (by simp)
  subst hc
  repeat' (first|refine zA rfl ?_|refine aA ?_|refine aJ rfl ?_)
  exact⟨rfl,_,rfl,_,rfl,aH.nil⟩
theorem a2a (s:Sg) (h1:s.pairs.length < 1000000) (h2:s.pins.length < 1000000) (h3:s.seen.length < 1000000):aN Tryz.prog 49 [s.av] s.av:=by
 refine aT (aY (bX s)) (bX s) ?_
 refine aC aF Tryz.func49 rfl (by decide) (by simp[Tryz.f49]) ?_
 have k1:=RN s.pairs h1
 have k2:=SH s.pins h2
 have k3:=TH s.seen h3
 unfold iQ at k1
 unfold bI at k2
 unfold bU at k3
 repeat' (first|refine zA rfl ?_|refine aA ?_|refine aJ rfl ?_|refine aD rfl k1 ?_|refine aD rfl k2 ?_|refine aD rfl k3 ?_|refine aO mixed [0,1,2,3,4,5,6,7,8,9,10,11,12,13,14] [.R,.R,.R,.R,.R,.R,.P,.R,.R,.P,.R,.R,.P,.P,.E] rfl rfl (by kernel_rfl) ?_)
 all_goals
  exact⟨rfl,_,rfl,_,rfl,aH.of_closed (bX s)⟩
theorem a34 (s:Sg) (o:Oo):(uD s o).2.1≠0→(uD s o).2.2=0:=by
 unfold uD
 split
 ·unfold BN
  split
  ·exact fun _=>rfl
  ·exact fun h=>absurd rfl h
 ·split
  ·unfold wO
   split
   ·exact fun _=>rfl
   ·split
    ·exact fun _=>rfl
    ·split
     ·exact fun h=>absurd rfl h
     ·exact fun _=>rfl
  ·split
   ·unfold wP
    split
    ·exact fun h=>absurd rfl h
    ·exact fun _=>rfl
   ·exact fun h=>absurd rfl h
theorem E2 {s:Sg} {o:Oo} (hs:fX s):QW s.pairs (eA s.mark o.at_ s.last s.pins)=true:=by
 have h:=(KM (b:=o.at_) s.pins hs.mark).1
 have a:=hs.mark0
 unfold QW
 rw[hs.st,decide_eq_false (by omega)]
 rfl
theorem a4l {s:Sg} {o:Oo} (hs:fX s) (hv:dD s.pairs) (hm:XX o) (ho:cN o) (hc:o.ch.length < 1000) {t:Tr} (ht:t.all=s.pairs):aS Tryz.prog 52 [.ptr 0 0,o.av] (GG s t) (DP s (uD s o)):=by
 have a:=hs.mark0
 have b:=hs.mark
 have l:=hs.last
 have m:=hs.many
 have n:=hs.pinsN
 have hz:=a34 s o
 obtain⟨c,q,k,se,at_,ch⟩:=o
 have hk:k=1∨k=2∨k=3∨k=4:=hm.kind
 unfold uD at hz ⊢
 rcases hk with rfl|rfl|rfl|rfl
 ·rw[if_pos rfl] at hz ⊢
  exact a0o s t c q 1 se at_ ch _ hz _ (.inl ⟨rfl,rfl⟩) (a99 s t _ ho hc ht m hv l (by omega) (FW hs (hm.lay rfl)))
 ·rw[if_neg (show ¬(2:Int)=1 by decide),if_pos rfl] at hz ⊢
  exact a0o s t c q 2 se at_ ch _ hz _ (.inr (.inl ⟨rfl,rfl⟩)) (a4v s t _ ht (by omega))
 ·rw[if_neg (show ¬(3:Int)=1 by decide),if_neg (show ¬(3:Int)=2 by decide),if_pos rfl] at hz ⊢
  exact a0o s t c q 3 se at_ ch _ hz _ (.inr (.inr (.inl ⟨rfl,rfl⟩))) (a7a s t _ ht (by omega))
 ·rw[if_neg (show ¬(4:Int)=1 by decide),if_neg (show ¬(4:Int)=2 by decide),if_neg (show ¬(4:Int)=3 by decide)] at hz ⊢
  exact a0o s t c q 4 se at_ ch _ hz _ (.inr (.inr (.inr ⟨rfl,rfl⟩))) (a3d s t _ ht (by omega) hv (by omega) (E2 hs))
theorem a2u {s:Sg} {o:Oo} (hs:fX s) (hv:dD s.pairs) (hm:XX o) (ho:cN o) (hc:o.ch.length < 1000):aN Tryz.prog 57 [s.av,o.av] (PR (uD s o)):=by
 have a:=hs.mark0
 have b:=hs.mark
 have l:=hs.last
 have m:=hs.many
 have n:=hs.pinsN
 unfold uD
 refine a5d s o _ (fun h=>?_) (fun h=>?_) (fun h=>?_) (fun h1 h2 h3=>?_)
 ·rw[if_pos h]
  exact YU s o ho (by omega) hv hc (by omega) (FW hs (hm.lay h))
 ·rw[if_neg (by omega),if_pos h]
  exact VR s o (by omega)
 ·rw[if_neg (by omega),if_neg (by omega),if_pos h]
  exact ZM s o (by omega)
 ·rw[if_neg h1,if_neg h2,if_neg h3]
  exact S4 s o (by omega) hv hs.rise (by omega) (E2 hs)
theorem a9w {M:aI} {id:Nat} {s:Sg} {t:Tr} {o:Oo} {z:Sg×(Int×Int)} (h:aS Tryz.prog 52 [.ptr 0 0,o.av] (GG s t) (DP s z)) (hM:M.get id=some (.cells (DF s t))) (hlt:id < M.next):aS Tryz.prog 52 [.ptr id 0,o.av] M fun e N=>∃d,N=⟨M.next+2,(id,.cells d)::M.objs⟩∧DR s z e d:=by
 refine aS.frame [id] (by simp) (by simpa using hlt) (N0:=GG s t) rfl ?_ h ⟨lZ.ptr rfl,lZ.closed (cH o),trivial⟩ ?_
 ·intro k o1 hk
  have hk':(if k=0 then some (cT.cells (DF s t)) else none)=some o1:=hk
  split at hk'
  ·rename_i h0
   subst h0
   cases hk'
   exact⟨id,_,rfl,hM,C6.closed (q6 s t)⟩
  ·cases hk'
 ·rintro e M1 ⟨h1,d,h2,t',h3,rfl,rfl⟩
  refine⟨.ret (dK z.2),_,fW.closed (cP (aZ aB aB)),⟨?_,?_⟩,_,rfl,t',h3,rfl,rfl⟩
  ·show M.next+2=_
   rw[h1]
   rfl
  ·intro i o hi
   have hi:(if i=id then some (cT.cells (DF {z.1 with pairs:=s.pairs} t')) else M.get i)=some o:=hi
   split at hi
   ·rename_i h0
    cases hi
    exact .inl ⟨0,_,.inl (by rw[h0];rfl),h2,qK.closed (q6 _ _)⟩
   ·rename_i h0
    exact .inr ⟨by simpa using h0,hi⟩
theorem RU (s:Sg) (o:Oo) (hs:gA s) (hl:yV s) (hn:s.seen.length < 100000) (ho:cN o) (z:Sg×(Int×Int)) (hz:bT s=true→fT o=true→z.1.pairs.length < 1000000) (kd:bT s=true→fT o=true→∀t,t.all=s.pairs→aS Tryz.prog 52 [.ptr 0 0,o.av] (GG s t) (DP s z)):aN Tryz.prog 19 [s.av,o.av] (P0 (QB s o z)):=by
 refine aT (aZ (bX s) (cH o)) (eZ _) ?_
 refine aC aF Tryz.func19 rfl (by decide) (by simp[Tryz.f19]) ?_
 have k1:=NL s hs
 have k2:=oR o ho
 have k3:=a2a s hl.pairs hl.pins hl.seen
 have k4:=WS s.seen .none (.inl rfl) (by omega) o.client o.seq
 have k5:=a36 s.seen (nX o z) hn
 have k6:=I2 s hs.pairs
 unfold QB
 unfold IA dK at k4
 unfold saA at k5
 unfold bU at k4 k5
 generalize nG s.seen (nX o z)=q at*
 generalize lB s.seen o.client o.seq=y at*
 obtain⟨ql,qe⟩:=q
 obtain⟨⟨yc,yn⟩,ye⟩:=y
 cases h1:bT s
 ·rw[h1] at k1
  repeat' (first|refine dV 2 aF rfl ?_|refine zA rfl ?_|refine aA ?_|refine aJ rfl ?_|refine aD rfl k1 ?_)
  exact⟨rfl,_,rfl,_,rfl,xF 1⟩
 ·rw[h1] at k1
  cases h2:fT o
  ·rw[h2] at k2
   repeat' (first|refine dV 2 aF rfl ?_|refine zA rfl ?_|refine aA ?_|refine aJ rfl ?_|refine aD rfl k1 ?_|refine aD rfl k2 ?_)
   exact⟨rfl,_,rfl,_,rfl,xF 1⟩
  ·rw[h2] at k2
   have hT:=qZ (dI.1 h1).rise (by have:=hs.pairs;omega)
   have kd:=kd h1 h2 _ hT
   have hz:=hz h1 h2
   generalize iG s.pairs=T at*
   obtain⟨t,c,n⟩:=z
   rw[if_pos (by rfl)]
   by_cases h3:ye=1
   ·have d3:decide (ye=1)=true:=by simp[h3]
    rw[if_pos h3]
    repeat' (first|refine zB rfl d3 ?_|refine dV 2 aF rfl ?_|refine zA rfl ?_|refine aA ?_|refine aJ rfl ?_|refine aD rfl k1 ?_|refine aD rfl k2 ?_|refine aD rfl k3 ?_|refine aD rfl k4 ?_|refine iJ mixed (.two [0] 1 2 (.fin [2,3,4]) (.fin [1,3,4])) [.R,.R,.E,.E,.P] rfl rfl (by kernel_rfl) ?_|refine sX.mk ?_ ?_)
    all_goals
     exact⟨rfl,_,rfl,_,rfl,aH.of_closed (eZ ((s,(yc,yn)),0))⟩
   ·have d3:decide (ye=1)=false:=by simp[h3]
    rw[if_neg h3]
    by_cases h4:ye=2
    ·have d4:decide (ye=2)=true:=by simp[h4]
     rw[if_pos h4]
     repeat' (first|refine zB rfl (by first|exact d3|exact d4) ?_|refine dV 2 aF rfl ?_|refine zA rfl ?_|refine aA ?_|refine aJ rfl ?_|refine aD rfl k1 ?_|refine aD rfl k2 ?_|refine aD rfl k3 ?_|refine aD rfl k4 ?_)
     all_goals
      exact⟨rfl,_,rfl,_,rfl,aH.of_closed (eZ ((s,(180,0)),0))⟩
    ·have d4:decide (ye=2)=false:=by simp[h4]
     rw[if_neg h4]
     unfold Tr.av at k6
     repeat' (first|refine zB rfl (by first|exact d3|exact d4) ?_|refine dV 2 aF rfl ?_|refine dV 49 aF rfl ?_|refine zA rfl ?_|refine aA ?_|refine aJ rfl ?_|refine aD rfl k1 ?_|refine aD rfl k2 ?_|refine aD rfl k3 ?_|refine aD rfl k4 ?_|refine aD rfl k6 ?_|refine aO mixed [0,1,2,3,4,5] [.R,.R,.P,.P,.E,.P] rfl rfl (by kernel_rfl) ?_)
     all_goals
      refine cU rfl rfl (a9w kd rfl (of_decide_eq_true rfl)) ?_ (fun u M' h=>by obtain⟨_,_,_,_,_,h⟩:=h;cases h)
      rintro u N ⟨d,rfl,t',e1,rfl,e2⟩
      cases e2
      by_cases h5:qe=0
      ·have d5:(!decide (qe=0))=false:=by simp[h5]
       rw[if_pos h5]
       have kw:=WT {t with pairs:=s.pairs} t' (by rw[e1];omega)
       unfold PD at kw
       rw[e1] at kw
       unfold DF
       unfold Tr.av at kw ⊢
       repeat' (first|refine zB rfl d5 ?_|refine zA rfl ?_|refine aA ?_|refine aJ rfl ?_|refine aD rfl k5 ?_)
       all_goals
        refine lN (aM.freezeP 9 rfl rfl) ?_
        repeat' (first|refine zA rfl ?_|refine aA ?_|refine aJ rfl ?_|refine aD rfl kw ?_|refine iJ mixed (.two [0] 1 2 (.fin [2,3,4]) (.fin [1,3,4])) [.R,.R,.E,.E,.P] rfl rfl (by kernel_rfl) ?_|refine aO mixed [0,1,2,3,4,5,6,7,8,9,10] [.P,.P,.P,.P,.P,.P,.P,.P,.P,.E,.E] rfl rfl (by kernel_rfl) ?_|refine sX.mk ?_ ?_)
        all_goals
         exact⟨rfl,_,rfl,_,rfl,aH.of_closed (eZ (({t with seen:=ql},(c,n)),0))⟩
      ·have d5:(!decide (qe=0))=true:=by simp[h5]
       rw[if_neg h5]
       unfold DF
       unfold Tr.av
       repeat' (first|refine zB rfl d5 ?_|refine zA rfl ?_|refine aA ?_|refine aJ rfl ?_|refine aD rfl k5 ?_)
       all_goals
        exact⟨rfl,_,rfl,_,rfl,aH.of_closed (eZ ((s,(qe,0)),0))⟩
end Go.Proofs.YthnhbmlefiafaaaGreatDoor
namespace Go.Ab
open Go.RowKit
def UH (τ:Tab) (t:TypeId) (x ix:AV):Option AV:=
 match x,JM τ t ix with
 |.agg l,some (n,ei)=>if ei.agg=false∧ei.size=1 then l[n]? else none
 |_,_=>none
theorem VN {P:Program} {τ:Tab} (hτ:TabOK P τ) {t:TypeId} {x ix:Operand} {ty:TypeId} {ρ:Operand→AV} {r:AV} (h:UH τ t (ρ x) (ρ ix)=some r):jY P (.index t x ix) ty ρ r:=by
 refine b8 ?_
 intro μ F w ρc o ho hty hr
 have hx:=hr x (by simp[Op.operands])
 have hi:=hr ix (by simp[Op.operands])
 unfold UH at h
 split at h
 case h_2=>cases h
 rename_i l n ei e ha
 split at h
 case isFalse=>cases h
 rename_i hag
 obtain⟨k,i,len,el,fe,de,ze,hix,hu,h0,h1,rfl,HE⟩:=rS hτ ha
 rw[hix] at hi
 generalize hvi:ρc ix=vi at hi
 cases hi
 rw[e] at hx
 generalize hv:ρc x=v at hx
 cases hx
 rename_i c hone hs hc
 have hlt:i.toNat < c.size:=by rw[hs];exact (List.getElem?_eq_some_iff.1 h).1
 have hA:=HE.isAgg w
 rw[hag.1] at hA
 refine⟨c[i.toNat],?_,hc _ r _ h (Array.getElem?_eq_getElem hlt)⟩
 have hg:c[i.toNat*1]? =some c[i.toNat]:=by rw[Nat.mul_one];exact Array.getElem?_eq_getElem hlt
 simp[execOp,ho,hv,hvi,Instr.index,asIntOf,run_underlying hu,h0,h1,run_sizeOf w HE.info,HE.cellsOf,hag.2,part,hA,Array.getElem?_eq_getElem hlt]
section
variable {P:Program} {τ:Tab} {ops:Array Oper} {cls:Nat→fZ} {Q:AX→AF→aI→Prop} {ds:List bH} {l:List Nat} {i:Nat} {t:List (Nat×AV)} {M:aI}
def ZQ (τ:Tab) (ops:Array Oper) (ds:List bH) (i:Nat) (t:List (Nat×AV)):Option (Nat×AV):=
 match ops[i]? with
 |some o=>
  match aV ops ⟨t,ds⟩ o,o.dst,o.op with
  |some true,some d,.index ty X I=>(match UH τ ty (AF.ev ⟨t,ds⟩ X) (AF.ev ⟨t,ds⟩ I) with|some r=>some (d,r)|none=>none)
  |_,_,_=>none
 |none=>none
theorem a1w (hτ:TabOK P τ) {d:Nat} {x:AV} (h0:ZQ τ ops ds i t=some (d,x)) (h:DW P ops cls Q ds l ((d,x)::t) M):DW P ops cls Q ds (i::l) t M:=by
 unfold ZQ at h0
 split at h0
 case h_2=>cases h0
 rename_i o hi
 split at h0
 case h_2=>cases h0
 rename_i d' ty X I hw hd ho
 split at h0
 case h_2=>cases h0
 rename_i r hr
 cases h0
 exact fR hi hw hd (by rw[ho];exact VN hτ hr) h
end
end Go.Ab
