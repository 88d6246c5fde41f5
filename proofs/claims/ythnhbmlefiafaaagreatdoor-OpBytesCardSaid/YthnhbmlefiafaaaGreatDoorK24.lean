/- Parts of the proof, one behind the other. No further condition. -/
import Derived.Test.YthnhbmlefiafaaaGreatDoorK23
set_option linter.unusedVariables false
set_option linter.unusedSimpArgs false
set_option maxRecDepth 100000
set_option maxHeartbeats 8000000
namespace Go.Proofs.YthnhbmlefiafaaaGreatDoor
open Go.Ab
theorem TB {l:List Pr} {i:Nat} {x:Pr} (q:Pr→Bool) (ht:l.take (i+1)=l.take i++[x]):(l.take (i+1)).filter q=if q x=true then (l.take i).filter q++[x] else (l.take i).filter q:=by
 rw[ht,List.filter_append]
 cases h:q x
 ·simp[h]
 ·simp[h]
noncomputable def dk (l:List Pr) (w:Int) (i:Nat):List Ky:=((l.take i).filter (jG l w)).map (·.key)
noncomputable def rl (l:List Pr) (w:Int) (i:Nat):List Pr:=(l.take i).filter fun x=>!jG l w x
noncomputable def rrA (l:List Pr) (w:Int):AV:=if QW l w=true then .tup [iQ (mQ l w),.int .i64 ((dQ w l).2.length:Int),.int .i64 0] else .tup [iQ [],.int .i64 0,.int .i64 1]
theorem O6 (l:List Pr) (w:Int):aP (rrA l w):=by
 unfold rrA
 split
 ·exact aW (cD (c6 _) aB aB)
 ·exact aW (cD (c6 _) aB aB)
noncomputable def rrF (l:List Pr) (w:Int) (i g:Nat):AF:=⟨[(0,iQ l),(1,.int .i64 w),(7,.sl 3 ((rl l w i).map Pr.av) (.tok 0 g)),(8,.int .i64 (i:Int))],[]⟩
theorem a2w (l:List Pr) (w:Int) (hl:l.length < 1000000) (hv:dD l) (hr:cJ l):aN Tryz.prog 160 [iQ l,.int .i64 w] (rrA l w):=by
 refine aT (aZ (c6 l) aB) (O6 _ _) ?_
 refine aC aF Tryz.func160 rfl (by decide) (by simp[Tryz.f160]) ?_
 have ki:=tG l hl hv
 have la:=aU Pr.av l
 have hcl:=c6 l
 unfold rrA
 cases h:QW l w
 ·rw[if_neg (by simp)]
  unfold QW at h
  cases h2:eY l
  ·rw[h2] at ki
   unfold iQ at*
   repeat' (first|refine zA rfl ?_|refine aA ?_|refine aJ rfl ?_|refine aD rfl ki ?_)
   exact⟨rfl,_,rfl,_,rfl,aH.tup3 aH.nil (aH.of_closed aB) (aH.of_closed aB)⟩
  ·rw[h2] at ki h
   have d1:decide (w < 0)=true:=by simpa using h
   unfold iQ at*
   repeat' (first|refine zB rfl d1 ?_|refine zA rfl ?_|refine aA ?_|refine aJ rfl ?_|refine aD rfl ki ?_)
   exact⟨rfl,_,rfl,_,rfl,aH.tup3 aH.nil (aH.of_closed aB) (aH.of_closed aB)⟩
 ·rw[if_pos rfl]
  unfold QW at h
  simp at h
  rw[h.1] at ki
  have d0:decide (w < 0)=false:=by simp;omega
  unfold iQ at*
  repeat' (first|refine zB rfl d0 ?_|refine zA rfl ?_|refine aA ?_|refine aJ rfl ?_|refine aD rfl ki ?_)
  refine aX l.length (fun i f N=>∃g,N=tokM g∧f=rrF l w i g) (Nat.zero_le _) ⟨0,rfl,rfl⟩ ((aM.tok 7 rfl (sz':=3) (.inr rfl)).trans (aM.le ?_ (cK rfl rfl))) ?_
  ·unfold rrF rl iQ
   repeat (refine AF.le_cons rfl ?_)
   exact AF.le_nil rfl
  rintro i f N hi ⟨g,rfl,rfl⟩
  unfold rrF iQ
  have lo:=aU Pr.av (rl l w i)
  have hob:(rl l w i).length≤i:=by
   have:=List.length_filter_le (fun x=>!jG l w x) (l.take i)
   unfold rl
   simp at this ⊢
   omega
  by_cases h1:i < l.length
  ·have d1:decide ((i:Int) < (l.length:Int))=true:=by simp;omega
   have hx:l[i]? =some l[i]:=List.getElem?_eq_getElem h1
   have fi:=aQ (i:=i) (by omega)
   have ht:=b7 hx
   have hm:=List.getElem_mem h1
   have hst:=TB (fun x=>!jG l w x) ht
   generalize l[i]=x at*
   have kd:=UE l i x w hl hx (hv x hm).2
   unfold iQ at kd
   cases hd:jG l w x
   ·rw[hd] at kd hst
    repeat' (first|refine zB rfl d1 ?_|refine zI rfl (by first|exact la|exact fi) ?_|refine zA rfl ?_|refine aA ?_|refine aJ rfl ?_|refine aD rfl kd ?_|refine zX rfl (c7 hx) ?_|refine zR rfl ?_|refine zP rfl rfl ?_)
    refine⟨h1,rrF l w (i+1) (g+1),tokM (g+1),⟨g+1,rfl,rfl⟩,?_⟩
    refine aM.le ?_ (cK rfl rfl)
    have e:AV.sl 3 ((rl l w (i+1)).map Pr.av) (.tok 0 (g+1))=.sl 3 ((rl l w i).map Pr.av++[x.av]) (.tok 0 (g+1)):=by unfold rl;rw[hst];simp
    unfold rrF iQ
    rw[e]
    repeat (refine AF.le_cons rfl ?_)
    exact AF.le_nil rfl
   ·rw[hd] at kd hst
    repeat' (first|refine zB rfl d1 ?_|refine zI rfl (by first|exact la|exact fi) ?_|refine zA rfl ?_|refine aA ?_|refine aJ rfl ?_|refine aD rfl kd ?_)
    refine⟨h1,rrF l w (i+1) g,tokM g,⟨g,rfl,rfl⟩,?_⟩
    refine aM.le ?_ (cK rfl rfl)
    have e:rl l w (i+1)=rl l w i:=by unfold rl;rw[hst];rfl
    unfold rrF iQ
    rw[e]
    repeat (refine AF.le_cons rfl ?_)
    exact AF.le_nil rfl
  ·have d1:decide ((i:Int) < (l.length:Int))=false:=by simp;omega
   obtain rfl:i=l.length:=by omega
   have hk:=c6 (rl l w l.length)
   have hn:=OQ hr w
   rw[show mQ l w=rl l w l.length by unfold rl mQ;rw[List.take_length]] at hn ⊢
   have f1:IntKind.wrap .i64 ((l.length:Int) - ((rl l w l.length).length:Int))=((dQ w l).2.length:Int):=by
    have:(l.length:Int) - ((rl l w l.length).length:Int)=((dQ w l).2.length:Int):=by omega
    rw[this]
    exact Go.Ab.wrap_small (by omega) (by omega)
   repeat' (first|refine zB rfl d1 ?_|refine zI rfl (by first|exact la|exact lo|exact f1) ?_|refine zA rfl ?_|refine aA ?_|refine aJ rfl ?_)
   exact⟨rfl,_,rfl,_,rfl,aH.tup3 (aH.untag hk) (aH.of_closed aB) (aH.of_closed aB)⟩
noncomputable def BN (s:Sg) (o:Oo):Sg×(Int×Int):=if 1000000000≤s.last∨200 < s.pairs.length+o.ch.length then (s,(2,0)) else ({s with pairs:=iH s.pairs (s.last+1) o.ch,last:=s.last+1},(0,s.last+1))
noncomputable def nU (s:Sg) (o:Oo):Sg×(Int×Int):=({s with pairs:=mQ s.pairs (eA s.mark o.at_ s.last s.pins),mark:=eA s.mark o.at_ s.last s.pins},(0,eA s.mark o.at_ s.last s.pins))
theorem YU (s:Sg) (o:Oo) (ho:cN o) (hp:s.pairs.length < 1000) (hv:dD s.pairs) (hc:o.ch.length < 1000) (h0:0≤s.last) (hB:s.last < 1000000000→tE s.pairs (s.last+1) o.ch=true):aN Tryz.prog 109 [s.av,o.av] (PR (BN s o)):=by
 refine aT (aZ (bX s) (cH o)) (cE _) ?_
 refine aC aF Tryz.func109 rfl (by decide) (by simp[Tryz.f109]) ?_
 have k:=a0n s.pairs (s.last+1) o.ch .none (.inl rfl) hp hv hc ho.2
 have lp:=aU Pr.av s.pairs
 have lc:=aU Ch.av o.ch
 unfold BN
 unfold gS iQ at k
 by_cases h1:1000000000≤s.last
 ·have d1:decide (s.last≥1000000000)=true:=decide_eq_true h1
  rw[if_pos (.inl h1)]
  repeat' (first|refine zB rfl d1 ?_|refine dV 2 aF rfl ?_|refine zA rfl ?_|refine aA ?_|refine aJ rfl ?_)
  exact⟨rfl,_,rfl,_,rfl,aH.of_closed (cE (s,(2,0)))⟩
 ·have d1:decide (s.last≥1000000000)=false:=decide_eq_false h1
  have f1:IntKind.wrap .i64 ((s.pairs.length:Int)+(o.ch.length:Int))=((s.pairs.length+o.ch.length:Nat):Int):=by
   rw[Go.Ab.wrap_small (i:=(s.pairs.length:Int)+(o.ch.length:Int)) (by omega) (by omega)]
   omega
  have f2:IntKind.wrap .i64 (s.last+1)=s.last+1:=Go.Ab.wrap_small (by omega) (by omega)
  by_cases h2:200 < s.pairs.length+o.ch.length
  ·have d2:decide (((s.pairs.length+o.ch.length:Nat):Int) > 200)=true:=decide_eq_true (by omega)
   rw[if_pos (.inr h2)]
   repeat' (first|refine zB rfl (by first|exact d1|exact d2) ?_|refine zI rfl (by first|exact lp|exact lc|exact f1) ?_|refine dV 2 aF rfl ?_|refine zA rfl ?_|refine aA ?_|refine aJ rfl ?_)
   exact⟨rfl,_,rfl,_,rfl,aH.of_closed (cE (s,(2,0)))⟩
  ·have d2:decide (((s.pairs.length+o.ch.length:Nat):Int) > 200)=false:=decide_eq_false (by omega)
   rw[if_neg (by omega)]
   unfold wA at k
   rw[if_pos (hB (by omega))] at k
   unfold iQ at k
   generalize iH s.pairs (s.last+1) o.ch=z at*
   repeat' (first|refine zB rfl (by first|exact d1|exact d2) ?_|refine zI rfl (by first|exact lp|exact lc|exact f1|exact f2) ?_|refine dV 2 aF rfl ?_|refine zA rfl ?_|refine aA ?_|refine aJ rfl ?_|refine aD rfl k ?_|refine iJ mixed (.two [0] 1 4 (.two [] 2 4 (.fin [3,4,5]) (.fin [2,3,5])) (.fin [1,2,3,5])) [.R,.R,.R,.P,.E,.E] rfl rfl (by kernel_rfl) ?_|refine sX.mk ?_ ?_)
   all_goals
    exact⟨rfl,_,rfl,_,rfl,aH.of_closed (cE ({s with pairs:=z,last:=s.last+1},(0,s.last+1)))⟩
theorem S4 (s:Sg) (o:Oo) (hp:s.pairs.length < 1000000) (hv:dD s.pairs) (hr:cJ s.pairs) (hn:s.pins.length < 1000000) (hB:QW s.pairs (eA s.mark o.at_ s.last s.pins)=true):aN Tryz.prog 112 [s.av,o.av] (PR (nU s o)):=by
 refine aT (aZ (bX s) (cH o)) (cE _) ?_
 refine aC aF Tryz.func112 rfl (by decide) (by simp[Tryz.f112]) ?_
 have k0:=SF s.mark o.at_ s.last s.pins .none hn
 have k:=a2w s.pairs (eA s.mark o.at_ s.last s.pins) hp hv hr
 unfold rrA at k
 rw[if_pos hB] at k
 unfold nU
 unfold iQ at k
 unfold bI at k0
 generalize eA s.mark o.at_ s.last s.pins=w at*
 generalize mQ s.pairs w=z at*
 generalize ((dQ w s.pairs).2.length:Int)=n at*
 repeat' (first|refine dV 2 aF rfl ?_|refine zA rfl ?_|refine aA ?_|refine aJ rfl ?_|refine aD rfl k0 ?_|refine aD rfl k ?_)
 exact⟨rfl,_,rfl,_,rfl,aH.of_closed (cE ({s with pairs:=z,mark:=w},(0,w)))⟩
theorem a5d (s:Sg) (o:Oo) (z:Sg×(Int×Int)) (k1:o.kind=1→aN Tryz.prog 109 [s.av,o.av] (PR z)) (k2:o.kind=2→aN Tryz.prog 110 [s.av,o.av] (PR z)) (k3:o.kind=3→aN Tryz.prog 111 [s.av,o.av] (PR z)) (k4:o.kind≠1→o.kind≠2→o.kind≠3→aN Tryz.prog 112 [s.av,o.av] (PR z)):aN Tryz.prog 57 [s.av,o.av] (PR z):=by
 refine aT (aZ (bX s) (cH o)) (cE _) ?_
 refine aC aF Tryz.func57 rfl (by decide) (by simp[Tryz.f57]) ?_
 obtain⟨t,c,n⟩:=z
 unfold PR dK at k1 k2 k3 k4
 by_cases h1:o.kind=1
 ·have e1:decide (o.kind=1)=true:=by simp[h1]
  have k:=k1 h1
  repeat' (first|refine zB rfl e1 ?_|refine zA rfl ?_|refine aA ?_|refine aJ rfl ?_|refine aD rfl k ?_|refine iJ mixed (.two [0] 1 2 (.fin [2,3]) (.fin [1,3])) [.R,.R,.E,.E] rfl rfl (by kernel_rfl) ?_|refine sX.mk ?_ ?_)
  all_goals
   exact⟨rfl,_,rfl,_,rfl,aH.of_closed (cE (t,(c,n)))⟩
 have e1:decide (o.kind=1)=false:=by simp[h1]
 by_cases h2:o.kind=2
 ·have e2:decide (o.kind=2)=true:=by simp[h2]
  have k:=k2 h2
  repeat' (first|refine zB rfl (by first|exact e1|exact e2) ?_|refine zA rfl ?_|refine aA ?_|refine aJ rfl ?_|refine aD rfl k ?_|refine iJ mixed (.two [0] 1 2 (.fin [2,3]) (.fin [1,3])) [.R,.R,.E,.E] rfl rfl (by kernel_rfl) ?_|refine sX.mk ?_ ?_)
  all_goals
   exact⟨rfl,_,rfl,_,rfl,aH.of_closed (cE (t,(c,n)))⟩
 have e2:decide (o.kind=2)=false:=by simp[h2]
 by_cases h3:o.kind=3
 ·have e3:decide (o.kind=3)=true:=by simp[h3]
  have k:=k3 h3
  repeat' (first|refine zB rfl (by first|exact e1|exact e2|exact e3) ?_|refine zA rfl ?_|refine aA ?_|refine aJ rfl ?_|refine aD rfl k ?_|refine iJ mixed (.two [0] 1 2 (.fin [2,3]) (.fin [1,3])) [.R,.R,.E,.E] rfl rfl (by kernel_rfl) ?_|refine sX.mk ?_ ?_)
  all_goals
   exact⟨rfl,_,rfl,_,rfl,aH.of_closed (cE (t,(c,n)))⟩
 have e3:decide (o.kind=3)=false:=by simp[h3]
 have k:=k4 h1 h2 h3
 repeat' (first|refine zB rfl (by first|exact e1|exact e2|exact e3) ?_|refine zA rfl ?_|refine aA ?_|refine aJ rfl ?_|refine aD rfl k ?_|refine iJ mixed (.two [0] 1 2 (.fin [2,3]) (.fin [1,3])) [.R,.R,.E,.E] rfl rfl (by kernel_rfl) ?_|refine sX.mk ?_ ?_)
 all_goals
  exact⟨rfl,_,rfl,_,rfl,aH.of_closed (cE (t,(c,n)))⟩
def tA:Sg:=⟨0,0,[],[],[]⟩
def P0 (x:(Sg×(Int×Int))×Int):AV:=.tup [x.1.1.av,dK x.1.2,.int .i64 x.2]
theorem eZ (x:(Sg×(Int×Int))×Int):aP (P0 x):=aW (cD (bX _) (cP (aZ aB aB)) aB)
theorem xF {k:Nat} (n:Int):aH k (.tup [.agg [.int .i64 0,.int .i64 0,.sl 0 [] .full,.sl 0 [] .full,.sl 0 [] .full],.agg [.int .i64 0,.int .i64 0],.int .i64 n]) (P0 ((tA,(0,0)),n)):=
 aH.tup3 (aH.aggL ⟨aH.of_closed aB,aH.of_closed aB,aH.nil,aH.nil,aH.nil,trivial⟩) (aH.of_closed (cP (aZ aB aB))) (aH.of_closed aB)
def nX (o:Oo) (z:Sg×(Int×Int)):Sn:=⟨o.client,o.seq,z.2.1,z.2.2⟩
def QB (s:Sg) (o:Oo) (z:Sg×(Int×Int)):(Sg×(Int×Int))×Int:=
 if (bT s&&fT o)=true then
  (if (lB s.seen o.client o.seq).2=1 then ((s,(lB s.seen o.client o.seq).1),0)
  else if (lB s.seen o.client o.seq).2=2 then ((s,(180,0)),0)
  else if (nG s.seen (nX o z)).2=0 then (({z.1 with seen:=(nG s.seen (nX o z)).1},z.2),0) else ((s,((nG s.seen (nX o z)).2,0)),0))
 else ((tA,(0,0)),1)
theorem R3 (s:Sg) (o:Oo) (hs:gA s) (hl:yV s) (hn:s.seen.length < 100000) (ho:cN o) (z:Sg×(Int×Int)) (kd:bT s=true→fT o=true→aN Tryz.prog 57 [s.av,o.av] (PR z)):aN Tryz.prog 20 [s.av,o.av] (P0 (QB s o z)):=by
 refine aT (aZ (bX s) (cH o)) (eZ _) ?_
 refine aC aF Tryz.func20 rfl (by decide) (by simp[Tryz.f20]) ?_
 have k1:=a0s s hs
 have k2:=F8 o ho
 have k3:=J2 s hl
 have k4:=RC s.seen .none (.inl rfl) (by omega) o.client o.seq
 have k5:=UF s.seen (nX o z) hn
 unfold QB
 unfold IA dK at k4
 unfold saA at k5
 unfold bU at k4 k5
 generalize nG s.seen (nX o z)=q at*
 generalize lB s.seen o.client o.seq=y at*
 obtain⟨ql,qe⟩:=q
 obtain⟨⟨yc,yn⟩,ye⟩:=y
 cases h1:bT s
 ·rw[h1] at k1
  repeat' (first|refine dV 2 aF rfl ?_|refine zA rfl ?_|refine aA ?_|refine aJ rfl ?_|refine aD rfl k1 ?_)
  exact⟨rfl,_,rfl,_,rfl,xF 1⟩
 ·rw[h1] at k1
  cases h2:fT o
  ·rw[h2] at k2
   repeat' (first|refine dV 2 aF rfl ?_|refine zA rfl ?_|refine aA ?_|refine aJ rfl ?_|refine aD rfl k1 ?_|refine aD rfl k2 ?_)
   exact⟨rfl,_,rfl,_,rfl,xF 1⟩
  ·rw[h2] at k2
   have kd:=kd h1 h2
   obtain⟨t,c,n⟩:=z
   unfold PR dK at kd
   rw[if_pos (by rfl)]
   by_cases h3:ye=1
   ·have d3:decide (ye=1)=true:=by simp[h3]
    rw[if_pos h3]
    repeat' (first|refine zB rfl d3 ?_|refine dV 2 aF rfl ?_|refine zA rfl ?_|refine aA ?_|refine aJ rfl ?_|refine aD rfl k1 ?_|refine aD rfl k2 ?_|refine aD rfl k3 ?_|refine aD rfl k4 ?_|refine iJ mixed (.two [0] 1 2 (.fin [2,3,4]) (.fin [1,3,4])) [.R,.R,.E,.E,.P] rfl rfl (by kernel_rfl) ?_|refine sX.mk ?_ ?_)
    all_goals
     exact⟨rfl,_,rfl,_,rfl,aH.of_closed (eZ ((s,(yc,yn)),0))⟩
   ·have d3:decide (ye=1)=false:=by simp[h3]
    rw[if_neg h3]
    by_cases h4:ye=2
    ·have d4:decide (ye=2)=true:=by simp[h4]
     rw[if_pos h4]
     repeat' (first|refine zB rfl (by first|exact d3|exact d4) ?_|refine dV 2 aF rfl ?_|refine zA rfl ?_|refine aA ?_|refine aJ rfl ?_|refine aD rfl k1 ?_|refine aD rfl k2 ?_|refine aD rfl k3 ?_|refine aD rfl k4 ?_)
     all_goals
      exact⟨rfl,_,rfl,_,rfl,aH.of_closed (eZ ((s,(180,0)),0))⟩
    ·have d4:decide (ye=2)=false:=by simp[h4]
     rw[if_neg h4]
     by_cases h5:qe=0
     ·have d5:(!decide (qe=0))=false:=by simp[h5]
      rw[if_pos h5]
      repeat' (first|refine zB rfl (by first|exact d3|exact d4|exact d5) ?_|refine dV 2 aF rfl ?_|refine zA rfl ?_|refine aA ?_|refine aJ rfl ?_|refine aD rfl k1 ?_|refine aD rfl k2 ?_|refine aD rfl k3 ?_|refine aD rfl k4 ?_|refine aD rfl kd ?_|refine aD rfl k5 ?_|refine iJ mixed (.two [0] 1 2 (.fin [2,3,4]) (.fin [1,3,4])) [.R,.R,.E,.E,.P] rfl rfl (by kernel_rfl) ?_|refine sX.mk ?_ ?_)
      all_goals
       exact⟨rfl,_,rfl,_,rfl,aH.of_closed (eZ (({t with seen:=ql},(c,n)),0))⟩
     ·have d5:(!decide (qe=0))=true:=by simp[h5]
      rw[if_neg h5]
      repeat' (first|refine zB rfl (by first|exact d3|exact d4|exact d5) ?_|refine dV 2 aF rfl ?_|refine zA rfl ?_|refine aA ?_|refine aJ rfl ?_|refine aD rfl k1 ?_|refine aD rfl k2 ?_|refine aD rfl k3 ?_|refine aD rfl k4 ?_|refine aD rfl kd ?_|refine aD rfl k5 ?_)
      all_goals
       exact⟨rfl,_,rfl,_,rfl,aH.of_closed (eZ ((s,(qe,0)),0))⟩
theorem PZ {α:Type} {q:α→Bool} {k:α→Int}:∀{l:List α} {p:Option Int},(∀x,x∈l→q x=true)→(∀n,p=some n→∀x,x∈l→n < k x)→(l.Pairwise fun a b=>k a < k b)→gW q k p l=true
 |[],p,_,_,_=>by cases p<;>rfl
 |x::r,p,h1,h2,h3=>by
  obtain⟨h4,h5⟩:=List.pairwise_cons.1 h3
  have ih:=PZ (l:=r) (p:=some (k x)) (fun y hy=>h1 y (by simp[hy])) (fun n e y hy=>by cases e;exact h4 y hy) h5
  cases p with
  |none=>simp[gW,h1 x (by simp),ih]
  |some n=>simp[gW,h1 x (by simp),ih,h2 n rfl x (by simp)]
theorem CJ (l:List Pn) (p:Pn):0≤(oV l p).2∧(oV l p).2≤1000:=by
 unfold oV
 split
 ·split
  ·decide
  ·split
   ·decide
   ·exact⟨Int.le_refl _,(by decide:(0:Int)≤1000)⟩
 ·decide
theorem NH {l:List Pn} {p:Pn} (h:(oV l p).2=0):gW dP Pn.session none (oV l p).1=true∧(oV l p).1.length≤50:=by
 unfold oV at h ⊢
 split at h
 case isFalse=>exact absurd h (by decide)
 rename_i h1
 rw[if_pos h1]
 split at h
 case isTrue=>exact absurd h (by decide)
 rename_i h2
 rw[if_neg h2]
 split at h
 case isTrue=>exact absurd h (by decide)
 rename_i h3
 rw[if_neg h3]
 rw[Bool.and_eq_true] at h1
 obtain⟨h4,h5⟩:=h1
 unfold iT at h4
 rw[Bool.and_eq_true] at h4
 have hp:=(mJ l p)
 refine⟨PZ (fun x hx=>?_) (fun n e=>by cases e) (EJ (nB h4.1).2 fun x hx e=>h2 (List.any_eq_true.2 ⟨x,hx,by simp[cG,e]⟩)),?_⟩
 ·rcases List.mem_append.1 (hp.subset hx) with hx|hx
  ·exact sU h4.1 x hx
  ·rw[List.mem_singleton] at hx
   rw[hx]
   exact h5
 ·show (oH l p).length≤50
  rw[hp.length_eq]
  simp
  omega
theorem wF (l:List Pn) (s:Int):0≤(gF l s).2∧(gF l s).2≤1000:=by
 unfold gF
 split
 ·split
  ·exact⟨Int.le_refl _,(by decide:(0:Int)≤1000)⟩
  ·decide
 ·decide
theorem E3 {l:List Pn} {s:Int} (h:(gF l s).2=0):gW dP Pn.session none (gF l s).1=true∧(gF l s).1.length≤50:=by
 unfold gF at h ⊢
 split at h
 case isFalse=>exact absurd h (by decide)
 rename_i h1
 rw[if_pos h1]
 split at h
 case isFalse=>exact absurd h (by decide)
 rename_i h2
 rw[if_pos h2]
 unfold iT at h1
 simp only[Bool.and_eq_true,decide_eq_true_eq] at h1
 have hs:(l.filter fun x=>!cG s x).Sublist l:=List.filter_sublist
 refine⟨PZ (fun x hx=>sU h1.1 x (hs.subset hx)) (fun n e=>by cases e) ((nB h1.1).2.sublist hs),?_⟩
 have:=hs.length_le
 show (l.filter fun x=>!cG s x).length≤50
 omega
theorem a4k {l:List Pn} (s:Int) (h:∀x,x∈l→dP x=true):0≤PL l s∧PL l s≤1000000000:=by
 unfold PL
 cases hf:l.find? (cG s) with
 |none=>decide
 |some x=>
  have:=h x (List.mem_of_find?_eq_some hf)
  unfold dP at this
  simp only[Bool.and_eq_true,decide_eq_true_eq] at this
  exact⟨this.1.2,this.2⟩
theorem B8:∀(l:List Pn) (a:Int),cB a l≤a
 |[],a=>Int.le_refl _
 |x::r,a=>by
  have h:=B8 r (mn a x.at_)
  rw[r4] at h
  show cB (mn a x.at_) r≤a
  rw[r4]
  omega
theorem KM {w b last:Int} (l:List Pn) (h:w≤last):w≤eA w b last l∧eA w b last l≤last:=by
 have:=B8 l (mn b last)
 unfold eA
 rw[a4w]
 rw[r4] at this ⊢
 omega
theorem yB:∀{l:List Sn} {s x:Sn},x∈iZ l s→x=s∨x∈l
 |[],s,x,h=>.inl (by simpa [iZ] using h)
 |y::r,s,x,h=>by
  unfold iZ at h
  split at h
  ·rcases List.mem_cons.1 h with rfl|h
   ·exact .inr (by simp)
   ·rcases yB h with h|h
    ·exact .inl h
    ·exact .inr (by simp[h])
  ·split at h
   ·rcases List.mem_cons.1 h with rfl|h
    ·exact .inl rfl
    ·exact .inr (by simp[h])
   ·rcases List.mem_cons.1 h with rfl|h
    ·exact .inl rfl
    ·exact .inr h
theorem PY:∀{l:List Sn} {s:Sn},(l.Pairwise fun a b=>a.client < b.client)→((iZ l s).Pairwise fun a b=>a.client < b.client)∧(iZ l s).length≤l.length+1∧(l.any (eV s.client)=true→(iZ l s).length=l.length)
 |[],s,_=>by simp[iZ]
 |y::r,s,h=>by
  obtain⟨h1,h2⟩:=List.pairwise_cons.1 h
  obtain⟨i1,i2,i3⟩:=PY (s:=s) h2
  unfold iZ
  split
  ·next g=>
   refine⟨List.Pairwise.cons (fun x hx=>?_) i1,by simp;omega,fun ha=>?_⟩
   ·rcases yB hx with rfl|hx
    ·exact g
    ·exact h1 x hx
   ·have:eV s.client y=false:=decide_eq_false (by omega)
    rw[List.any_cons,this,Bool.false_or] at ha
    simp[i3 ha]
  ·split
   ·next g=>
    exact⟨List.Pairwise.cons (fun x hx=>by rw[←g];exact h1 x hx) h2,by simp,fun _=>rfl⟩
   ·next g g2=>
    have g3:s.client < y.client:=by omega
    refine⟨List.Pairwise.cons (fun x hx=>?_) h,by simp,fun ha=>?_⟩
    ·rcases List.mem_cons.1 hx with rfl|hx
     ·exact g3
     ·exact Int.lt_trans g3 (h1 x hx)
    ·obtain⟨x,hx,e⟩:=List.any_eq_true.1 ha
     have e:x.client=s.client:=of_decide_eq_true e
     rcases List.mem_cons.1 hx with rfl|hx
     ·omega
     ·have:=h1 x hx
      omega
theorem DD:∀(l:List Sn) (s:Sn),(iZ l s).find? (eV s.client)=some s
 |[],s=>by simp[iZ,eV]
 |y::r,s=>by
  unfold iZ
  split
  ·next g=>rw[List.find?_cons_of_neg (by simp[eV];omega),DD r s]
  ·split<;>exact List.find?_cons_of_pos (by simp[eV])
theorem US (l:List Sn) (s:Sn):lB (iZ l s) s.client s.seq=((s.code,s.n),1):=by
 unfold lB jP nZ
 rw[DD]
 show (if s.seq < s.seq then _ else if s.seq=s.seq then _ else _)=_
 rw[if_neg (by omega),if_pos rfl]
 rfl
theorem yX {l:List Sn} {s:Sn} (h:(nG l s).2=0):(nG l s).1=iZ l s∧gW fB Sn.client none (nG l s).1=true∧(nG l s).1.length≤50:=by
 unfold nG at h ⊢
 split at h
 case isFalse=>exact absurd h (by decide)
 rename_i h1
 rw[if_pos h1]
 split at h
 case isTrue=>exact absurd h (by decide)
 rename_i h2
 rw[if_neg h2]
 split at h
 case isTrue=>exact absurd h (by decide)
 rename_i h3
 rw[if_neg h3]
 rw[Bool.and_eq_true] at h1
 obtain⟨h4,h5⟩:=h1
 unfold lS at h4
 simp only[Bool.and_eq_true,decide_eq_true_eq] at h4
 obtain⟨g1,g2,g3⟩:=PY (s:=s) (nB h4.1).2
 refine⟨rfl,PZ (fun x hx=>?_) (fun n e=>by cases e) g1,?_⟩
 ·rcases yB hx with rfl|hx
  ·exact h5
  ·exact sU h4.1 x hx
 ·show (iZ l s).length≤50
  cases ha:l.any (eV s.client) with
  |true=>rw[g3 ha];exact h4.2
  |false=>
   have:¬50≤l.length:=fun h=>h3 ⟨ha,h⟩
   omega
structure XX (o:Oo):Prop where
 c0:0≤o.client
 c1:o.client≤1000000
 s0:1≤o.seq
 s1:o.seq≤1000000000
 e0:0≤o.session
 e1:o.session≤1000000
 a0:0≤o.at_
 a1:o.at_≤1000000000
 k:yH o=true
theorem nT {o:Oo} (h:fT o=true):XX o:=by
 unfold fT IR at h
 simp only[Bool.and_eq_true,decide_eq_true_eq,Bool.not_eq_true',decide_eq_false_iff_not] at h
 obtain⟨⟨⟨⟨⟨h1,h2⟩,h3⟩,h4⟩,h5⟩,h6⟩:=h
 exact⟨h1.1,h1.2,by omega,h3.2,h4.1,h4.2,h5.1,h5.2,h6⟩
theorem XX.lay {o:Oo} (h:XX o) (h1:o.kind=1):cL o.ch=true:=by
 have:=h.k
 unfold yH at this
 rw[if_pos h1] at this
 simp only[Bool.and_eq_true] at this
 exact this.1.1
theorem XX.kind {o:Oo} (h:XX o):o.kind=1∨o.kind=2∨o.kind=3∨o.kind=4:=by
 have:=h.k
 unfold yH at this
 by_cases h1:o.kind=1
 ·exact .inl h1
 ·by_cases h2:o.kind=2
  ·exact .inr (.inl h2)
  ·by_cases h3:o.kind=3
   ·exact .inr (.inr (.inl h3))
   ·by_cases h4:o.kind=4
    ·exact .inr (.inr (.inr h4))
    ·rw[if_neg h1,if_neg h2,if_neg h3,if_neg h4] at this
     cases this
structure SG (s:Sg) (z:Sg×(Int×Int)):Prop where
 state:fX z.1
 seen:z.1.seen=s.seen
 last:s.last≤z.1.last
 mark:s.mark≤z.1.mark
 c0:0≤z.2.1
 c1:z.2.1≤1000
 n0:0≤z.2.2
 n1:z.2.2≤1000000000
 vals:dD z.1.pairs
theorem k_0:(0:Int)≤0:=Int.le_refl 0
theorem k_3:(0:Int)≤1000:=by decide
theorem k_9:(0:Int)≤1000000000:=by decide
theorem ZO {l:List Pr} {at_:Int} {c:List Ch} (h:cJ l) (hn:l.length+c.length < 1000000):cJ (iH l at_ c):=by
 have e:=qZ h (by omega)
 have:=(o6 (iG l) at_ c).rise
 have h2:=KQ (t:=iG l) (at_:=at_) (c:=c) (by rw[e];omega)
 rw[e] at h2
 rw[←h2]
 exact this
theorem XP {l:List Pr} {at_:Int} {c:List Ch} (L:Lays l at_ c) (hv:dD l) (hc:∀x,x∈c→fE x):dD (iH l at_ c):=fun p hp=>by
 rcases ((p6 L).1 p).1 hp with hp|⟨x,hx,rfl⟩
 ·exact hv p hp
 ·have hm:=(CZ (L.may x hx)).2.2.1
  unfold mV at hm
  simp only[Bool.and_eq_true,decide_eq_true_eq] at hm
  have h2:=A0 x.meta_ x.gone (by omega)
  have h3:=(hc x hx).1
  exact⟨h3,by show (cI x.meta_ x.gone).1.length < _;omega⟩
theorem FW {s:Sg} {o:Oo} (hs:fX s) (hb:cL o.ch=true) (h1:s.last < 1000000000):tE s.pairs (s.last+1) o.ch=true:=by
 have a:=hs.mark0
 have b:=hs.mark
 have c:=hs.top
 unfold tE
 rw[hs.st,hb,decide_eq_true (show 1≤s.last+1 by omega),decide_eq_true (show s.last+1≤1000000000 by omega),decide_eq_true (show eO s.pairs < s.last+1 by omega)]
 rfl
theorem a52 {s:Sg} {o:Oo} (hs:fX s) (hv:dD s.pairs) (hb:cL o.ch=true) (ho:cN o):SG s (BN s o):=by
 unfold BN
 split
 ·exact⟨hs,rfl,Int.le_refl _,Int.le_refl _,(by decide:(0:Int)≤2),(by decide:(2:Int)≤1000),k_0,k_9,hv⟩
 ·next h=>
  have h1:s.last < 1000000000:=by omega
  have L:=LX (FW hs hb h1)
  obtain⟨hm,hlen⟩:=p6 L
  have a:=hs.mark0
  have b:=hs.mark
  have m:=hs.many
  exact⟨⟨a,by show s.mark≤s.last+1;omega,by show s.last+1≤_;omega,by show (iH _ _ _).length≤200;rw[hlen];omega,ZO hs.rise (by omega),QG L,by show eO _≤s.last+1;rw[T7 L];exact Int.le_refl _,hs.pins,hs.pinsN,hs.seen,hs.seenN⟩,rfl,by show s.last≤s.last+1;omega,Int.le_refl _,k_0,k_3,by show 0≤s.last+1;omega,by show s.last+1≤_;omega,XP L hv ho.2⟩
theorem a0i {s:Sg} {o:Oo} (hs:fX s) (hv:dD s.pairs) (hm:XX o):SG s (wO s o):=by
 have same:∀c:Int,0≤c→c≤1000→SG s (s,(c,0)):=fun c h0 h1=>⟨hs,rfl,Int.le_refl _,Int.le_refl _,h0,h1,k_0,k_9,hv⟩
 unfold wO
 split
 ·exact same 180 (by decide) (by decide)
 ·split
  ·exact same 181 (by decide) (by decide)
  ·split
   ·next h=>
    obtain⟨h1,h2⟩:=NH h
    exact⟨⟨hs.mark0,hs.mark,hs.last,hs.many,hs.rise,hs.st,hs.top,h1,h2,hs.seen,hs.seenN⟩,rfl,Int.le_refl _,Int.le_refl _,k_0,k_3,hm.a0,hm.a1,hv⟩
   ·exact same _ (CJ _ _).1 (CJ _ _).2
theorem a0p {s:Sg} {o:Oo} (hs:fX s) (hv:dD s.pairs):SG s (wP s o):=by
 unfold wP
 split
 ·next h=>
  obtain⟨h1,h2⟩:=E3 h
  have h3:=a4k o.session (sU hs.pins)
  exact⟨⟨hs.mark0,hs.mark,hs.last,hs.many,hs.rise,hs.st,hs.top,h1,h2,hs.seen,hs.seenN⟩,rfl,Int.le_refl _,Int.le_refl _,k_0,k_3,h3.1,h3.2,hv⟩
 ·exact⟨hs,rfl,Int.le_refl _,Int.le_refl _,(wF _ _).1,(wF _ _).2,k_0,k_9,hv⟩
theorem TZ {l:List Pr} (h:eY l=true) (w:Int):eO (mQ l w)≤eO l:=by
 unfold eO
 rw[if_pos h,if_pos (VZ h w)]
 unfold jI
 obtain⟨a,b,_⟩:=mZ l 0
 rcases (mZ (mQ l w) 0).2.2 with e|⟨y,hy,e⟩
 ·rw[e]
  exact a
 ·rw[e]
  exact b y (FE.1 hy).1
theorem YF {s:Sg} {o:Oo} (hs:fX s) (hv:dD s.pairs):SG s (nU s o):=by
 unfold nU
 obtain⟨h1,h2⟩:=KM (b:=o.at_) s.pins hs.mark
 have a:=hs.mark0
 have b:=hs.last
 have m:=hs.many
 have t:=hs.top
 have n:=(P6 s.pairs (eA s.mark o.at_ s.last s.pins)).length_le
 have u:=TZ hs.st (eA s.mark o.at_ s.last s.pins)
 exact⟨⟨by show 0≤eA _ _ _ _;omega,h2,b,by show (mQ _ _).length≤200;omega,XZ hs.rise _,VZ hs.st _,by show eO (mQ _ _)≤s.last;omega,hs.pins,hs.pinsN,hs.seen,hs.seenN⟩,rfl,Int.le_refl _,h1,k_0,k_3,by show 0≤eA _ _ _ _;omega,by show eA _ _ _ _≤_;omega,WO hv _⟩
noncomputable def uD (s:Sg) (o:Oo):Sg×(Int×Int):=if o.kind=1 then BN s o else if o.kind=2 then wO s o else if o.kind=3 then wP s o else nU s o
theorem a41 {s:Sg} {o:Oo} (hs:fX s) (hv:dD s.pairs) (hm:XX o) (ho:cN o):SG s (uD s o):=by
 unfold uD
 split
 ·next h=>exact a52 hs hv (hm.lay h) ho
 ·split
  ·exact a0i hs hv hm
  ·split
   ·exact a0p hs hv
   ·exact YF hs hv
noncomputable def dR (s:Sg) (o:Oo):(Sg×(Int×Int))×Int:=QB s o (uD s o)
theorem JE {a b:Bool} (h1:a=true) (h2:b=true):(a&&b)=true:=by rw[h1,h2];rfl
theorem F6 {s:Sg} {o:Oo} (h:(bT s&&fT o)=false):dR s o=((tA,(0,0)),1):=by
 unfold dR QB
 rw[h]
 rfl
structure a88 (s:Sg) (x:(Sg×(Int×Int))×Int):Prop where
 e:x.2=0
 state:fX x.1.1
 last:s.last≤x.1.1.last
 mark:s.mark≤x.1.1.mark
 vals:dD x.1.1.pairs
theorem yE {s:Sg} {o:Oo} (hs:bT s=true) (hv:dD s.pairs) (hm:fT o=true) (ho:cN o):a88 s (dR s o):=by
 have hst:=dI.1 hs
 have same:∀r:Int×Int,a88 s ((s,r),0):=fun r=>⟨rfl,hst,Int.le_refl _,Int.le_refl _,hv⟩
 unfold dR QB
 rw[if_pos (JE hs hm)]
 split
 ·exact same _
 ·split
  ·exact same _
  ·have D:=a41 hst hv (nT hm) ho
   split
   ·next h=>
    obtain⟨_,h1,h2⟩:=yX h
    have S:=D.state
    exact⟨rfl,⟨S.mark0,S.mark,S.last,S.many,S.rise,S.st,S.top,S.pins,S.pinsN,h1,h2⟩,D.last,D.mark,D.vals⟩
   ·exact same _
theorem SE {s:Sg} {o:Oo} (hs:bT s=true) (hv:dD s.pairs) (hm:fT o=true) (ho:cN o):dR (dR s o).1.1 o=dR s o:=by
 have A:=yE hs hv hm ho
 have hs2:=dI.2 A.state
 have key:dR s o=((s,(dR s o).1.2),0)→dR (dR s o).1.1 o=dR s o:=fun h=>by rw[h];exact h
 by_cases h1:(lB s.seen o.client o.seq).2=1
 ·refine key ?_
  unfold dR QB
  rw[if_pos (JE hs hm),if_pos h1]
 ·by_cases h2:(lB s.seen o.client o.seq).2=2
  ·refine key ?_
   unfold dR QB
   rw[if_pos (JE hs hm),if_neg h1,if_pos h2]
  ·by_cases h3:(nG s.seen (nX o (uD s o))).2=0
   ·have e:dR s o=(({(uD s o).1 with seen:=(nG s.seen (nX o (uD s o))).1},(uD s o).2),0):=by
     unfold dR QB
     rw[if_pos (JE hs hm),if_neg h1,if_neg h2,if_pos h3]
    rw[e] at hs2 ⊢
    have hl:=US s.seen (nX o (uD s o))
    rw[←(yX h3).1] at hl
    unfold dR QB
    have hl:lB (nG s.seen (nX o (uD s o))).1 o.client o.seq=(((uD s o).2.1,(uD s o).2.2),1):=hl
    dsimp only at hs2 ⊢
    rw[if_pos (JE hs2 hm),hl,if_pos rfl]
   ·refine key ?_
    unfold dR QB
    rw[if_pos (JE hs hm),if_neg h1,if_neg h2,if_neg h3]
def eR:Nat→aG→Option (List Nat×aG)
 |0,s=>some ([],s)
 |k+1,s=>match bV s with
  |none=>none
  |some (n,r)=>(eR k r).map fun x=>(n::x.1,x.2)
theorem oL {k n:Nat} {s r:aG} (h:bV s=some (n,r)):eR (k+1) s=(eR k r).map fun x=>(n::x.1,x.2):=by
 show (match bV s with|none=>none|some (n,r)=>(eR k r).map fun x:List Nat×aG=>(n::x.1,x.2))=_
 rw[h]
theorem oC {k:Nat} {s:aG} (h:bV s=none):eR (k+1) s=none:=by
 show (match bV s with|none=>none|some (n,r)=>(eR k r).map fun x:List Nat×aG=>(n::x.1,x.2))=_
 rw[h]
def FAt (s:aG) (i:Nat) (m:List Nat) (q:aG):Prop:=∀j,eR (i+j) s=(eR j q).map fun x=>(m++x.1,x.2)
theorem PN (s:aG):FAt s 0 [] s:=by
 intro j
 rw[Nat.zero_add]
 cases eR j s<;>rfl
theorem HV {s q r:aG} {i n:Nat} {m:List Nat} (h:FAt s i m q) (hg:bV q=some (n,r)):FAt s (i+1) (m++[n]) r:=by
 intro j
 rw[show i+1+j=i+(j+1) by omega,h (j+1),oL hg]
 cases eR j r with
 |none=>rfl
 |some x=>simp
theorem J1 {s q:aG} {i k:Nat} {m:List Nat} (h:FAt s i m q) (hg:bV q=none) (hk:i < k):eR k s=none:=by
 have:=h (k - i - 1+1)
 rw[show i+(k - i - 1+1)=k by omega,oC hg] at this
 exact this
theorem E9 {s q:aG} {k:Nat} {m:List Nat} (h:FAt s k m q):eR k s=some (m,q):=by
 have:=h 0
 rw[Nat.add_zero] at this
 rw[this]
 simp[eR]
def jR (o:Oo):List Int:=[o.client,o.seq,o.kind,o.session,o.at_]
def GE (o:Oo):aG:=cX (jR o)++(if o.kind=1 then jF (dY o.ch) else [])
def iV (o:Oo):aG×Int:=if fT o=true then (GE o,0) else ([],1)
def sE (m:List Nat) (i:Nat):Int:=(m.getD i 0:Nat)
def sA (m:List Nat) (c:List Ch):Oo:=⟨sE m 0,sE m 1,sE m 2,sE m 3,sE m 4,c⟩
def qP (o:Oo):Option Oo:=if fT o=true then some o else none
def kD (s:aG):Option Oo:=match eR 5 s with
 |none=>none
 |some (m,q)=>if sE m 2=1 then (match l5 q with|none=>none|some c=>qP (sA m c)) else if q=[] then qP (sA m []) else none
theorem nF {s:aG} (h:eR 5 s=none):kD s=none:=by
 unfold kD
 rw[h]
theorem n8 {s q:aG} {m:List Nat} (h:eR 5 s=some (m,q)):kD s=if sE m 2=1 then (match l5 q with|none=>none|some c=>qP (sA m c)) else if q=[] then qP (sA m []) else none:=by
 unfold kD
 rw[h]
theorem rC:∀{k:Nat} {s q:aG} {m:List Nat},eR k s=some (m,q)→cX (nI m)++q=s∧m.length=k∧∀n,n∈m→n < 4294967296
 |0,s,q,m,h=>by
  cases h
  exact⟨rfl,rfl,by simp⟩
 |k+1,s,q,m,h=>by
  cases hg:bV s with
  |none=>rw[oC hg] at h;cases h
  |some p=>
   obtain⟨n,r⟩:=p
   rw[oL hg] at h
   cases hr:eR k r with
   |none=>rw[hr] at h;cases h
   |some x=>
    obtain⟨m',q'⟩:=x
    rw[hr] at h
    cases h
    obtain⟨h1,h2,h3⟩:=rC hr
    obtain⟨h4,h5⟩:=nD hg
    refine⟨?_,by simp[h2],fun x hx=>?_⟩
    ·rw[←h4,←h1]
     simp[cX,nI]
    ·rcases List.mem_cons.1 hx with rfl|hx
     ·exact h5
     ·exact h3 x hx
theorem zY:∀(l:List Int) (r:aG),(∀x,x∈l→0≤x∧x≤4294967295)→eR l.length (cX l++r)=some (l.map Int.toNat,r)
 |[],r,_=>rfl
 |x::l,r,h=>by
  have hx:=h x (by simp)
  have e:cX (x::l)++r=eU x.toNat++(cX l++r):=by simp[cX]
  rw[e]
  show eR (l.length+1) _=_
  rw[oL (nS (by omega) _),zY l r fun y hy=>h y (by simp[hy])]
  rfl
theorem FP {m:List Nat} (h:m.length=5) (c:List Ch):jR (sA m c)=nI m:=by
 match m,h with
 |[a,b,c,d,e],_=>rfl
theorem nK {l:List Ch} (h:cL l=true):x5 l=(jF (dY l),0):=by
 have:=(u6 (qU h)).2
 exact this
theorem QC {o:Oo} (h:XX o) (h1:o.kind≠1):o.ch=[]:=by
 have:=h.k
 unfold yH at this
 rw[if_neg h1] at this
 have key:(o.ch.length:Int)=0→o.ch=[]:=fun h=>List.eq_nil_of_length_eq_zero (by omega)
 rcases h.kind with h2|h2|h2|h2
 ·exact absurd h2 h1
 ·rw[if_pos h2] at this
  exact key (of_decide_eq_true this)
 ·rw[if_neg (by omega),if_pos h2] at this
  simp only[Bool.and_eq_true,decide_eq_true_eq] at this
  exact key this.1
 ·rw[if_neg (by omega),if_neg (by omega),if_pos h2] at this
  simp only[Bool.and_eq_true,decide_eq_true_eq] at this
  exact key this.1
theorem G9 {o:Oo} (h:XX o):∀x,x∈jR o→0≤x∧x≤4294967295:=by
 have:=h.c0
 have:=h.c1
 have:=h.s0
 have:=h.s1
 have:=h.e0
 have:=h.e1
 have:=h.a0
 have:=h.a1
 have:=h.kind
 intro x hx
 unfold jR at hx
 simp only[List.mem_cons,List.not_mem_nil,or_false] at hx
 rcases hx with rfl|rfl|rfl|rfl|rfl<;>omega
theorem B5 {o:Oo} (h:fT o=true):kD (GE o)=some o:=by
 have M:=nT h
 have hf:eR 5 (GE o)=some ((jR o).map Int.toNat,if o.kind=1 then jF (dY o.ch) else []):=zY (jR o) _ (G9 M)
 have a:=M.c0
 have b:=M.s0
 have c:=M.e0
 have d:=M.a0
 have k:=M.kind
 have e:∀ch,sA ((jR o).map Int.toNat) ch={o with ch:=ch}:=fun ch=>by
  unfold sA sE jR
  simp
  omega
 have e2:sE ((jR o).map Int.toNat) 2=o.kind:=congrArg Oo.kind (e [])
 rw[n8 hf,e2]
 by_cases h1:o.kind=1
 ·rw[if_pos h1,if_pos h1,qU (M.lay h1)]
  dsimp only
  rw[e]
  exact if_pos h
 ·rw[if_neg h1,if_neg h1,if_pos rfl,e,←QC M h1]
  exact if_pos h
theorem A3 {s:aG} {o:Oo} (h:kD s=some o):fT o=true∧GE o=s:=by
 cases hf:eR 5 s with
 |none=>rw[nF hf] at h;cases h
 |some p=>
  obtain⟨m,q⟩:=p
  obtain⟨h1,h2,_⟩:=rC hf
  rw[n8 hf] at h
  split at h
  ·next hk=>
   cases hc:l5 q with
   |none=>rw[hc] at h;cases h
   |some c=>
    rw[hc] at h
    dsimp only at h
    unfold qP at h
    split at h
    ·next hm=>
     cases h
     refine⟨hm,?_⟩
     unfold GE
     rw[FP h2,if_pos (show (sA m c).kind=1 from hk)]
     have:=u6 hc
     have e:=nK this.1
     rw[this.2] at e
     have e:q=jF (dY c):=congrArg Prod.fst e
     rw[←h1]
     show _++jF (dY c)=_
     rw[←e]
    ·cases h
  ·next hk=>
   split at h
   ·next hq=>
    unfold qP at h
    split at h
    ·next hm=>
     cases h
     refine⟨hm,?_⟩
     unfold GE
     rw[FP h2,if_neg (show (sA m []).kind≠1 from hk),←h1,hq]
    ·cases h
   ·cases h
theorem vS {sz:Nat}:∀{xs:List AV} (i:Nat),(∀x,x∈xs→x.cells.length=sz)→(b9 xs).take (i*sz)=b9 (xs.take i)
 |[],i,_=>by simp[b9]
 |x::r,0,_=>by simp[b9]
 |x::r,i+1,h=>by
  have e:b9 (x::r)=x.cells++b9 r:=rfl
  have hx:=h x (by simp)
  have e2:(i+1)*sz=x.cells.length+i*sz:=by rw[hx,Nat.add_mul];omega
  rw[e,e2,List.take_length_add_append,vS i (fun y hy=>h y (by simp[hy]))]
  rfl
theorem vQ {sz:Nat}:∀{xs:List AV} (i:Nat),(∀x,x∈xs→x.cells.length=sz)→(b9 xs).drop (i*sz)=b9 (xs.drop i)
 |[],i,_=>by simp[b9]
 |x::r,0,_=>by simp
 |x::r,i+1,h=>by
  have e:b9 (x::r)=x.cells++b9 r:=rfl
  have hx:=h x (by simp)
  have e2:(i+1)*sz=x.cells.length+i*sz:=by rw[hx,Nat.add_mul];omega
  rw[e,e2,List.drop_length_add_append,vQ i (fun y hy=>h y (by simp[hy]))]
  rfl
theorem rQ {l cs:List AV} {n:Nat} (h:n+cs.length≤l.length):bA l n cs=l.take n++cs++l.drop (n+cs.length):=by
 apply List.ext_getElem?
 intro i
 rw[fO _ _ _ _ h]
 by_cases h1:i < n
 ·rw[if_neg (by omega),List.append_assoc,List.getElem?_append_left (by simp;omega),List.getElem?_take,if_pos h1]
 ·by_cases h2:i < n+cs.length
  ·rw[if_pos ⟨by omega,h2⟩,List.append_assoc,List.getElem?_append_right (by simp;omega)]
   have e:(l.take n).length=n:=by simp;omega
   rw[e,List.getElem?_append_left (by omega)]
  ·rw[if_neg (by omega),List.getElem?_append_right (by simp;omega)]
   have e:(l.take n++cs).length=n+cs.length:=by simp;omega
   rw[e,List.getElem?_drop]
   congr 1
   omega
theorem qL {l cs:List AV} {n k:Nat} (h:n+cs.length≤l.length) (hk:k≤n):(bA l n cs).take k=l.take k:=by
 rw[rQ h,List.append_assoc,List.take_append_of_le_length (by simp;omega),List.take_take,Nat.min_eq_left hk]
theorem AI {N:aI} {id cap sz:Nat} {cells xs:List AV} (hM:N.get id=some (.cells cells)) (hx:cells.take (xs.length*sz)=b9 xs) (hc:xs.length≤cap) (hl:cells.length=cap*sz) (hs:∀x,x∈xs→∃cs,x=.agg cs∧cs.length=sz∧∀c,c∈cs→aP c):gB 0 N (.osl id 0 xs.length cap sz) (.sl sz xs .none):=by
 refine gB.row (Nat.zero_le _) hM hx (fun x hx=>?_) hc (by rw[hl];exact Nat.mul_le_mul_right _ hc) ?_
 ·obtain⟨cs,rfl,h,_⟩:=hs x hx
  exact h
 ·have:∀{xs:List AV},(∀x,x∈xs→∃cs,x=.agg cs∧cs.length=sz∧∀c,c∈cs→aP c)→r9 (UX 0 N) xs xs:=by
   intro xs
   induction xs with
   |nil=>intro _;trivial
   |cons x xs ih=>
    intro h
    refine⟨?_,ih fun y hy=>h y (by simp[hy])⟩
    obtain⟨cs,rfl,_,h3⟩:=h x (by simp)
    exact⟨rfl,fun j a b ha hb=>by rw[ha] at hb;cases hb;exact .closed (h3 a (List.mem_of_getElem? ha))⟩
  exact this hs
theorem RK {cells xs:List AV} {sz i:Nat} (hs:∀x,x∈xs→x.cells.length=sz) (hx:cells.take (xs.length*sz)=b9 xs) (hi:i < xs.length) (hl:xs.length*sz≤cells.length):
  (bA cells (i*sz) ((cells.drop ((i+1)*sz)).take ((xs.length - (i+1))*sz))).take ((xs.length - 1)*sz)=b9 (xs.take i++xs.drop (i+1)):=by
 have e1:(xs.length - (i+1))*sz=xs.length*sz - (i+1)*sz:=Nat.sub_mul _ _ _
 have e2:(cells.drop ((i+1)*sz)).take ((xs.length - (i+1))*sz)=b9 (xs.drop (i+1)):=by
  rw[e1,←List.drop_take,hx,vQ (i+1) hs]
 have e3:(b9 (xs.drop (i+1))).length=(xs.length - (i+1))*sz:=by
  rw[cC fun x hx=>hs x (List.mem_of_mem_drop hx),List.length_drop]
 have e4:(xs.length - 1)*sz=i*sz+(xs.length - (i+1))*sz:=by
  rw[←Nat.add_mul]
  congr 1
  omega
 have e5:(i+1)*sz≤xs.length*sz:=Nat.mul_le_mul_right _ hi
 have e6:(i+1)*sz=i*sz+sz:=by rw[Nat.add_mul];omega
 rw[e2,e4,←e3,iL (by rw[e3];omega),fN]
 congr 1
 rw[←vS i hs,←hx,List.take_take,Nat.min_eq_left (Nat.mul_le_mul_right _ (by omega))]
end Go.Proofs.YthnhbmlefiafaaaGreatDoor
namespace Go.Proofs.YthnhbmlefiafaaaGreatDoor
open Go.Ab Go.Shelf Go.RowKit Go.Lib Go.Sort
theorem NV (x:Int) (W:World):Calls Tryz.prog 206 #[.int .i64 x] W fun e w'=>e=.returned (.bool false)∧w'=W:=by
 go_enter Tryz.func206,Tryz.ntmps206
 go_wp2
 go_ret
 exact⟨by simp,rfl⟩
theorem LP (x y:Int) (W:World):Calls Tryz.prog 181 #[.int .i64 x,.int .i64 y] W fun e w'=>e=.returned (.int .i64 (Lib.compareInt x y))∧w'=W:=by
 go_enter Tryz.func181,Tryz.ntmps181
 go_wp2_with (go_at_call 206;refine (NV _ _).mono ?_;rintro e w' ⟨rfl,rfl⟩)
 all_goals (go_ret;refine⟨?_,rfl⟩;unfold Lib.compareInt;(repeat' split)<;>first|rfl|(exfalso;omega))
theorem M5 (a b:Int) (v u:Value) (W:World):Calls Tryz.prog 180 #[.agg #[.int .i64 a,v],.agg #[.int .i64 b,u]] W fun e w'=>e=.returned (.int .i64 (Lib.compareInt a b))∧∃q os',w'=grow (W.drewN q) os':=by
 have hcon:=fun W'=>LP a b W'
 generalize Lib.compareInt a b=r at hcon ⊢
 go_enter Tryz.func180,Tryz.ntmps180
 go_wp2_with (go_at_call 181;refine (hcon _).mono ?_;rintro e w' ⟨rfl,rfl⟩)
 go_ret
 exact⟨rfl,0,_,by rw[alloc_eq_grow,alloc_eq_grow,grow_grow];rfl⟩
theorem X8 (a b:Int):Go.Proofs.ltOf Lib.compareInt a b=decide (a < b):=by
 unfold Go.Proofs.ltOf Lib.compareInt
 by_cases h1:a < b
 ·simp[h1]
 ·by_cases h2:a > b<;>simp[h1,h2]
theorem a0h:SWO (Go.Proofs.ltOf Lib.compareInt):=by
 refine⟨fun x=>?_,fun x y z=>?_,fun x y z=>?_⟩<;>simp only[X8,decide_eq_true_eq,decide_eq_false_iff_not]<;>omega
def sT:AV→Int
 |.agg (.int _ s::_)=>s
 |_=>0
theorem a0c (xs:List AV) (h:∀x,x∈xs→∃p:Pn,x=p.av):a4c Tryz.prog 180 Lib.compareInt sT xs:=by
 intro μ F w x y c1 c2 hx hy h1 h2 W
 obtain⟨a,rfl⟩:=h x hx
 obtain⟨b,rfl⟩:=h y hy
 obtain⟨_,e1,s1,r1,_⟩:=h1.agg_inv
 cases e1
 obtain⟨_,e2,s2,r2,_⟩:=h2.agg_inv
 cases e2
 match c1,c2,s1,s2,r1,r2 with
 |⟨[v0,v1]⟩,⟨[u0,u1]⟩,_,_,r1,r2=>
  have k1:=r1 0 _ v0 rfl rfl
  have k2:=r2 0 _ u0 rfl rfl
  cases k1
  cases k2
  exact M5 _ _ _ _ W
theorem C3 (l:List Pn) (hl:l.length < 1000000) (hne:l≠[]) (M:aI):aS Tryz.prog 84 [bI l .none] M (fun e N=>∃cap cells,e=.ret (.osl M.next 0 l.length cap 2)∧N=M.push (.cells cells)∧l.length≤cap∧cells.length=cap*2∧cells.take (l.length*2)=b9 (l.map Pn.av)):=by
 refine aC aF Tryz.func84 rfl (by decide) (by simp[Tryz.f84]) ?_
 unfold bI
 repeat' (first|refine zA rfl ?_|refine aA ?_|refine aJ rfl ?_)
 refine nQ rfl rfl ?_
 intro b hb
 cases b
 ·have hm:l.map Pn.av≠[]:=fun e=>hne (by simpa using e)
  have le:(l.map Pn.av).length=l.length:=by simp
  repeat' (first|refine zA rfl ?_|refine aA ?_|refine aJ rfl ?_|refine zR rfl ?_)
  refine xX aF rfl rfl rfl rfl rfl rfl rfl rfl rfl rfl rfl (.inr rfl) rfl rfl hm (by simp;omega) (by simp;omega) ?_
  intro cap' l' g1 g2 g3
  repeat' (first|refine zA rfl ?_|refine aA ?_|refine aJ rfl ?_)
  rw[le] at g1 g3
  refine⟨rfl,_,rfl,cap',l',?_,rfl,by simpa using g1,g2,?_⟩
  ·rw[le]
   simp
   rfl
  ·simpa [b9] using g3
 ·exact absurd (hb fun e=>hne (by simpa using e)) (by simp)
theorem L4 (M:aI):aS Tryz.prog 84 [bI [] .none] M (fun e N=>∃sz,e=.ret (.sl sz [] .full)∧N=M):=by
 refine aC aF Tryz.func84 rfl (by decide) (by simp[Tryz.f84]) ?_
 unfold bI
 repeat' (first|refine zA rfl ?_|refine aA ?_|refine aJ rfl ?_)
 refine nQ rfl rfl ?_
 intro b hb
 cases b
 ·repeat' (first|refine zA rfl ?_|refine aA ?_|refine aJ rfl ?_|refine zR rfl ?_)
  refine Q4 aF rfl rfl rfl rfl rfl rfl rfl rfl rfl rfl rfl rfl ?_
  repeat' (first|refine zA rfl ?_|refine aA ?_|refine aJ rfl ?_)
  exact⟨rfl,_,rfl,_,rfl,rfl⟩
 ·repeat' (first|refine zA rfl ?_|refine aA ?_|refine aJ rfl ?_)
  exact⟨rfl,_,rfl,_,rfl,rfl⟩
theorem MN (M:aI) (id cap i:Nat) (cells xs:List AV) (hM:M.get id=some (.cells cells)) (hs:∀x,x∈xs→x.cells.length=2) (hx:cells.take (xs.length*2)=b9 xs) (hc:xs.length≤cap) (hl:cells.length=cap*2) (hi:i < xs.length) (hsz:xs.length < 1000000):
  aS Tryz.prog 182 [.osl id 0 xs.length cap 2,.int .i64 (i:Int),.int .i64 ((i+1:Nat):Int)] M (fun e N=>∃cells',e=.ret (.osl id 0 (xs.length - 1) cap 2)∧N.get id=some (.cells cells')∧cells'.length=cap*2∧cells'.take ((xs.length - 1)*2)=b9 (xs.take i++xs.drop (i+1))):=by
 refine aC aF Tryz.func182 rfl (by decide) (by simp[Tryz.f182]) ?_
 have d0:decide ((i:Int)=((i+1:Nat):Int))=false:=decide_eq_false (by omega)
 have hcut:=RK hs hx hi (by omega)
 have hcl:((cells.drop ((i+1)*2)).take ((xs.length - (i+1))*2)).length=(xs.length - (i+1))*2:=by rw[List.length_take,List.length_drop];omega
 have hsrc:∀off2,(if i+1 < cap then 0+(i+1)*2 else 0)=off2→off2+(xs.length - (i+1))*2≤cells.length∧(cells.drop ((i+1)*2)).take ((xs.length - (i+1))*2)=(cells.drop off2).take ((xs.length - (i+1))*2):=by
  rintro off2 rfl
  split
  ·exact⟨by omega,by rw[Nat.zero_add]⟩
  ·have e:xs.length - (i+1)=0:=by omega
   rw[e]
   exact⟨by omega,by simp⟩
 generalize (cells.drop ((i+1)*2)).take ((xs.length - (i+1))*2)=cs at hcut hcl hsrc
 repeat' (first|refine zA rfl ?_|refine aA ?_|refine aJ rfl ?_)
 refine sQ aF rfl rfl rfl rfl rfl rfl hM rfl rfl ?_
 skip
 refine a24 aF rfl rfl rfl rfl rfl rfl rfl rfl rfl hM rfl rfl rfl (Nat.le_succ i) hi hc ?_
 repeat' (first|refine zB rfl d0 ?_|refine zA rfl ?_|refine aA ?_|refine aJ rfl ?_)
 refine sQ aF rfl rfl rfl rfl rfl rfl hM rfl rfl ?_
 repeat' (first|refine zA rfl ?_|refine aA ?_|refine aJ rfl ?_|refine aO mixed [0,1,3,4,2,5,6,7] [.P,.P,.R,.P,.P,.R,.E,.P] rfl rfl (by kernel_rfl) ?_)
 refine gJ aF rfl rfl rfl rfl rfl rfl rfl rfl rfl rfl hM rfl rfl (Nat.zero_le i) (by omega) (off':=0) (by split<;>rfl) (Nat.sub_zero _) (Nat.sub_zero _) ?_
 skip
 refine gJ aF rfl rfl rfl rfl rfl rfl rfl rfl rfl rfl hM rfl rfl hi hc rfl rfl rfl ?_
 skip
 refine W8 aF rfl rfl rfl rfl rfl rfl rfl rfl rfl rfl rfl rfl hM (by omega) (cs:=cs) (.inr ⟨_,_,_,_,rfl,hM,(hsrc _ rfl).1,(hsrc _ rfl).2⟩) (by omega) (n':=xs.length - 1) (by omega) (p:=i*2) (by omega) ?_
 have hM2:(M.set id (.cells (bA cells (i*2) cs))).get id=some (.cells (bA cells (i*2) cs)):=cW
 have hl2:(bA cells (i*2) cs).length=cap*2:=by rw[bN,hl]
 generalize M.set id (.cells (bA cells (i*2) cs))=M2 at hM2
 generalize bA cells (i*2) cs=cells2 at hM2 hl2 hcut
 repeat' (first|refine zA rfl ?_|refine aA ?_|refine aJ rfl ?_)
 refine sQ aF rfl rfl rfl rfl rfl rfl hM2 rfl rfl ?_
 repeat' (first|refine zA rfl ?_)
 refine gJ aF rfl rfl rfl rfl rfl rfl rfl rfl rfl rfl hM2 rfl rfl (by omega) hc (off':=(xs.length - 1)*2) (by rw[if_pos (by omega),Nat.zero_add]) (n':=1) (by omega) rfl ?_
 skip
 refine S2 aF rfl rfl rfl rfl rfl rfl rfl rfl rfl rfl hM2 (by omega) (by decide) (by decide) ?_
 repeat' (first|refine zA rfl ?_|refine aA ?_|refine aJ rfl ?_)
 refine⟨rfl,_,rfl,_,rfl,cW,by rw[bN,hl2],?_⟩
 rw[qL (by rw[List.length_replicate];omega) (Nat.le_refl _)]
 exact hcut
end Go.Proofs.YthnhbmlefiafaaaGreatDoor
namespace Go.Proofs.YthnhbmlefiafaaaGreatDoor
open Go.Ab Go.Shelf Go.RowKit Go.Lib Go.Sort
theorem tI {N:aI} {x:AV} {m:List Pn} {n:Int} (h:gB 0 N x (bI m .none)):gB 0 N (.tup [x,.int .i64 n]) (NP (m,n)):=by
 refine .tup _ _ rfl fun i a b ha hb=>?_
 match i,ha,hb with
 |0,ha,hb=>cases ha;cases hb;exact h
 |1,ha,hb=>cases ha;cases hb;exact .closed aB
 |i+2,ha,hb=>simp at ha
theorem AC {N:aI} {sz sz':Nat}:gB 0 N (.sl sz' [] .full) (.sl sz [] .none):=.sub _ _ fun μ μ0 F w v hf hr=>by
 obtain⟨A,cap,ad,vals,rfl,hsz,hcap,hA,hone,hcell,hrep,htag⟩:=hr.sl_inv
 exact .sl sz [] .none A cap ad vals (by intro x hx;cases hx) hcap hA (by intro i x j c hx;simp at hx) (by intro i x j c hx;simp at hx) (by intro i x j c hx;simp at hx) trivial
theorem VY (l:List Pn):∀x,x∈l.map Pn.av→x.cells.length=2:=fun x hx=>by
 obtain⟨p,_,rfl⟩:=List.mem_map.1 hx
 rfl
theorem DN (l:List Pn):∀x,x∈l.map Pn.av→∃cs,x=.agg cs∧cs.length=2∧∀c,c∈cs→aP c:=fun x hx=>by
 obtain⟨p,_,rfl⟩:=List.mem_map.1 hx
 exact⟨_,rfl,rfl,nR p⟩
theorem LT {l:List Pn} {s:Int} {i:Nat} {x:Pn} (hp:l.Pairwise fun a b=>a.session < b.session) (hx:l[i]? =some x) (hh:cG s x=true):(l.filter fun x=>!cG s x)=l.take i++l.drop (i+1):=by
 have e:l=l.take i++x::l.drop (i+1):=by
  rw[←IY hx,List.take_append_drop]
 generalize l.take i=a at e ⊢
 generalize l.drop (i+1)=b at e ⊢
 subst e
 obtain⟨_,h2,h3⟩:=List.pairwise_append.1 hp
 have h4:=(List.pairwise_cons.1 h2).1
 simp[cG] at hh
 have ha:(a.filter fun x=>!cG s x)=a:=List.filter_eq_self.2 fun y hy=>by
  have:=h3 y hy x (by simp)
  simp[cG]
  omega
 have hb:(b.filter fun x=>!cG s x)=b:=List.filter_eq_self.2 fun y hy=>by
  have:=h4 y hy
  simp[cG]
  omega
 rw[List.filter_append,ha,List.filter_cons_of_neg (by simp[cG,hh]),hb]
theorem N5 (l:List Pn) (s:Int) (hl:l.length < 100000):aS Tryz.prog 145 [bI l .none,.int .i64 s] ⟨0,[]⟩ (fun e N=>∃x,e=.ret x∧gB 0 N x (NP (gF l s))∧0≤N.next∧gU 0 N []):=by
 refine aC aF Tryz.func145 rfl (by decide) (by simp[Tryz.f145]) ?_
 have k1:=zM l (by omega)
 have k2:=AQ l .none (by omega) s
 have err:∀{N:aI} (n:Int),∃x,dG.ret (.tup [.sl 0 [] .full,.int .i64 n])=.ret x∧gB 0 N x (NP ([],n))∧0≤N.next∧gU 0 N []:=fun n=>⟨_,rfl,tI AC,Nat.zero_le _,trivial⟩
 unfold gF
 unfold iT
 cases h1:gW dP Pn.session none l&&decide (l.length≤50)
 ·rw[h1] at k1
  unfold bI at*
  repeat' (first|refine zA rfl ?_|refine aA ?_|refine aJ rfl ?_|refine aD rfl k1 ?_)
  exact⟨rfl,_,rfl,err 1⟩
 ·rw[h1] at k1
  rw[if_pos rfl]
  obtain⟨hup,hp⟩:=nB (by simp at h1;exact h1.1:gW dP Pn.session none l=true)
  rcases iW l (cG s) with ⟨h2,h3,_⟩|⟨i,x,hx,hpx,hno,h3,_,h2⟩
  ·rw[h3] at k2
   rw[if_neg (by simp[h2])]
   unfold bI at*
   repeat' (first|refine zA rfl ?_|refine aA ?_|refine aJ rfl ?_|refine aD rfl k1 ?_|refine aD rfl k2 ?_)
   exact⟨rfl,_,rfl,err 80⟩
  ·rw[h3] at k2
   rw[if_pos h2,LT hp hx hpx]
   have hil:i < l.length:=(List.getElem?_eq_some_iff.1 hx).1
   have hne:l≠[]:=by rintro rfl;simp at hx
   have d1:decide ((i:Int) < 0)=false:=decide_eq_false (by omega)
   have fi:=aQ (i:=i) (by omega)
   have kc:=C3 l (by omega) hne ⟨0,[]⟩
   unfold bI at*
   repeat' (first|refine zB rfl d1 ?_|refine zA rfl ?_|refine aA ?_|refine aJ rfl ?_|refine aD rfl k1 ?_|refine aD rfl k2 ?_)
   refine cU rfl rfl kc ?_ (fun u M' h=>by obtain⟨_,_,h,_⟩:=h;cases h)
   rintro u M' ⟨cap,cells,e,rfl,g1,g2,g3⟩
   cases e
   have le:(l.map Pn.av).length=l.length:=by simp
   have kd:=MN (aI.push ⟨0,[]⟩ (.cells cells)) 0 cap i cells (l.map Pn.av) rfl (VY l) (by rw[le];exact g3) (by omega) g2 (by omega) (by omega)
   rw[le] at kd
   repeat' (first|refine zI rfl fi ?_|refine zA rfl ?_)
   refine cU rfl rfl kd ?_ (fun u M' h=>by obtain⟨_,h,_⟩:=h;cases h)
   rintro u M' ⟨cells',e,hM,q1,q2⟩
   cases e
   repeat' (first|refine zA rfl ?_|refine aA ?_|refine aJ rfl ?_)
   have em:(l.map Pn.av).take i++(l.map Pn.av).drop (i+1)=(l.take i++l.drop (i+1)).map Pn.av:=by simp
   have el:((l.take i++l.drop (i+1)).map Pn.av).length=l.length - 1:=by simp;omega
   rw[em,←el] at q2
   have hv:=AI (sz:=2) (cap:=cap) hM q2 (by omega) q1 (DN _)
   rw[el] at hv
   exact⟨rfl,_,rfl,_,rfl,tI hv,Nat.zero_le _,trivial⟩
theorem S3 (l:List Pn) (s:Int) (hl:l.length < 100000):aN Tryz.prog 145 [bI l .none,.int .i64 s] (NP (gF l s)):=B2 (aZ (bP l (.inl rfl)) aB) (n7 _) (N5 l s hl)
theorem SA {l:List Pn} {p:Pn} {ys:List AV} (hl:l.Pairwise fun a b=>a.session < b.session) (hn:l.any (cG p.session)=false) (hp:ys.Perm (l.map Pn.av++[p.av])) (hs:ys.Pairwise fun a b=>¬Lib.compareInt (sT b) (sT a) < 0):ys=(oH l p).map Pn.av:=by
 have hno:∀x,x∈l→x.session≠p.session:=fun x hx=>by
  rw[List.any_eq_false] at hn
  have:=hn x hx
  simpa [cG] using this
 refine (OV (k:=sT) ?_ ?_ ?_).symm
 ·have:=(mJ l p).map Pn.av
  rw[List.map_append] at this
  exact this.trans hp.symm
 ·have:=EJ hl hno
  rw[List.pairwise_map]
  exact this
 ·refine hs.imp fun {a b} h=>?_
  have:=X8 (sT b) (sT a)
  unfold Go.Proofs.ltOf at this
  have h2:decide (sT b < sT a)=false:=by rw[←this];simpa using h
  simp at h2
  exact h2
theorem YA (l:List Pn) (p:Pn) (hl:l.length < 100000):aS Tryz.prog 143 [bI l .none,p.av] ⟨0,[]⟩ (fun e N=>∃x,e=.ret x∧gB 0 N x (NP (oV l p))∧0≤N.next∧gU 0 N []):=by
 refine aC aF Tryz.func143 rfl (by decide) (by simp[Tryz.f143]) ?_
 have la:=aU Pn.av l
 have k1:=zM l (by omega)
 have k2:=OT p
 have k3:=AQ l .none (by omega) p.session
 have err:∀{N:aI} (n:Int),∃x,dG.ret (.tup [.sl 0 [] .full,.int .i64 n])=.ret x∧gB 0 N x (NP ([],n))∧0≤N.next∧gU 0 N []:=fun n=>⟨_,rfl,tI AC,Nat.zero_le _,trivial⟩
 unfold oV
 unfold iT
 cases h1:gW dP Pn.session none l&&decide (l.length≤50)
 ·rw[h1] at k1
  unfold bI at*
  repeat' (first|refine zA rfl ?_|refine aA ?_|refine aJ rfl ?_|refine aD rfl k1 ?_)
  exact⟨rfl,_,rfl,err 1⟩
 ·rw[h1] at k1
  cases h2:dP p
  ·rw[h2] at k2
   unfold bI at*
   repeat' (first|refine zA rfl ?_|refine aA ?_|refine aJ rfl ?_|refine aD rfl k1 ?_|refine aD rfl k2 ?_)
   exact⟨rfl,_,rfl,err 1⟩
  ·rw[h2] at k2
   rw[if_pos (by rfl)]
   have h50:l.length≤50:=by simp at h1;exact h1.2
   obtain⟨_,hup⟩:=nB (by simp at h1;exact h1.1:gW dP Pn.session none l=true)
   rcases iW l (cG p.session) with ⟨h3,h4,_⟩|⟨i,x,hx,hpx,hno,h4,_,h3⟩
   ·rw[h4] at k3
    rw[if_neg (by simp[h3])]
    by_cases h5:l.length=50
    ·have d5:decide ((l.length:Int)=50)=true:=decide_eq_true (by omega)
     rw[if_pos (by omega)]
     unfold bI at*
     repeat' (first|refine zB rfl d5 ?_|refine zI rfl la ?_|refine zA rfl ?_|refine aA ?_|refine aJ rfl ?_|refine aD rfl k1 ?_|refine aD rfl k2 ?_|refine aD rfl k3 ?_)
     exact⟨rfl,_,rfl,err 2⟩
    ·have d5:decide ((l.length:Int)=50)=false:=decide_eq_false (by omega)
     rw[if_neg (by omega)]
     have hsl:=mJ l p
     have hil:=hsl.length_eq
     rw[List.length_append,List.length_singleton] at hil
     have sort:∀(M:aI) (id cap:Nat) (cells:List AV),M.get id=some (.cells cells)→cells.take ((l.length+1)*2)=b9 (l.map Pn.av++[p.av])→l.length+1≤cap→cells.length=cap*2→
       aS Tryz.prog 179 [.osl id 0 (l.length+1) cap 2,.fn (.func 180) [] []] M (fun e N=>e=.ret (.tup [])∧∃x,gB 0 N (.osl id 0 (l.length+1) cap 2) x∧x=bI (oH l p) .none):=by
      intro M id cap cells hM hx hc hcl
      have hlen:(l.map Pn.av++[p.av]).length=l.length+1:=by simp
      have htwo:∀x,x∈l.map Pn.av++[p.av]→∃q:Pn,x=q.av:=fun x hx=>by
       rcases List.mem_append.1 hx with hx|hx
       ·obtain⟨q,_,rfl⟩:=List.mem_map.1 hx
        exact⟨q,rfl⟩
       ·simp at hx
        exact⟨p,hx⟩
      have ks:=K4 R2 ⟨_,_,Tryz.func179,rfl,by decide⟩ (k:=2) (by decide) Tryz.isAgg132 Tryz.sizeOf132 (g:=180) ⟨_,_,Tryz.func180,rfl,by decide⟩ Lib.compareInt a0h sT (a0c _ htwo) (M:=M) (id:=id) (cap:=cap) (l:=cells) hM (by rw[hlen];exact hx) (fun x hx=>by obtain⟨q,rfl⟩:=htwo x hx;exact⟨_,rfl,rfl⟩) (by simp) (by rw[hlen];omega) (by rw[hlen];omega)
      rw[hlen] at ks
      refine ks.mono ?_
      rintro e N ⟨rfl,ys,q1,q2,rfl⟩
      obtain rfl:=SA hup h3 q1 q2
      refine⟨rfl,_,?_,rfl⟩
      have hf:=cC (VY (oH l p))
      rw[List.length_map,hil] at hf
      have el:((oH l p).map Pn.av).length=l.length+1:=by simp[hil]
      have:=AI (N:=M.set id (.cells (b9 ((oH l p).map Pn.av)++cells.drop ((l.length+1)*2)))) (id:=id) (cap:=cap) (sz:=2) (xs:=(oH l p).map Pn.av) cW (by rw[el,←hf];simp) (by omega) (by rw[List.length_append,List.length_drop,hf];omega) (DN _)
      rw[el] at this
      exact this
     by_cases h0:l=[]
     ·subst h0
      have kc:=L4 ⟨0,[]⟩
      unfold bI at*
      repeat' (first|refine zB rfl d5 ?_|refine zI rfl la ?_|refine zA rfl ?_|refine aA ?_|refine aJ rfl ?_|refine aD rfl k1 ?_|refine aD rfl k2 ?_|refine aD rfl k3 ?_|refine zR rfl ?_|refine aO mixed [0,2,3,1,4,5] [.P,.E,.P,.P,.E,.P] rfl rfl (by kernel_rfl) ?_)
      refine cU rfl rfl kc ?_ (fun u M' h=>by obtain⟨_,h,_⟩:=h;cases h)
      rintro u M' ⟨sz,e,rfl⟩
      cases e
      skip
      refine xX aF rfl rfl rfl rfl rfl rfl rfl rfl rfl rfl rfl (.inr rfl) rfl rfl (by simp) (by simp) (by simp) ?_
      intro cap' l' g1 g2 g3
      repeat' (first|refine zA rfl ?_|refine aA ?_|refine aJ rfl ?_)
      refine cU rfl rfl (sort _ 0 cap' l' rfl g3 (by simpa using g1) g2) ?_ (fun u M' h=>by cases h.1)
      rintro u M' ⟨e,x,hv,rfl⟩
      cases e
      repeat' (first|refine zA rfl ?_|refine aA ?_|refine aJ rfl ?_)
      exact⟨rfl,_,rfl,_,rfl,tI hv,Nat.zero_le _,trivial⟩
     ·have kc:=C3 l (by omega) h0 ⟨0,[]⟩
      unfold bI at*
      repeat' (first|refine zB rfl d5 ?_|refine zI rfl la ?_|refine zA rfl ?_|refine aA ?_|refine aJ rfl ?_|refine aD rfl k1 ?_|refine aD rfl k2 ?_|refine aD rfl k3 ?_|refine zR rfl ?_|refine aO mixed [0,2,3,1,4,5] [.P,.E,.P,.P,.E,.P] rfl rfl (by kernel_rfl) ?_)
      refine cU rfl rfl kc ?_ (fun u M' h=>by obtain⟨_,_,h,_⟩:=h;cases h)
      rintro u M' ⟨cap,cells,e,rfl,f1,f2,f3⟩
      cases e
      skip
      refine nM aF rfl rfl rfl rfl rfl (l:=cells) rfl rfl rfl rfl rfl rfl rfl rfl rfl rfl f2 f1 (by simp;omega) (by simp;omega) ?_
      intro cap' l' g1 g2 g3
      repeat' (first|refine zA rfl ?_|refine aA ?_|refine aJ rfl ?_)
      rw[f3] at g3
      refine cU rfl rfl (sort _ 1 cap' l' rfl (by rw[fN];exact g3) (by simpa using g1) g2) ?_ (fun u M' h=>by cases h.1)
      rintro u M' ⟨e,x,hv,rfl⟩
      cases e
      repeat' (first|refine zA rfl ?_|refine aA ?_|refine aJ rfl ?_)
      exact⟨rfl,_,rfl,_,rfl,tI hv,Nat.zero_le _,trivial⟩
   ·rw[h4] at k3
    rw[if_pos h3]
    have d1:decide ((i:Int)≥0)=true:=decide_eq_true (by omega)
    unfold bI at*
    repeat' (first|refine zB rfl d1 ?_|refine zA rfl ?_|refine aA ?_|refine aJ rfl ?_|refine aD rfl k1 ?_|refine aD rfl k2 ?_|refine aD rfl k3 ?_)
    exact⟨rfl,_,rfl,err 170⟩
theorem a3f (l:List Pn) (p:Pn) (hl:l.length < 100000):aN Tryz.prog 143 [bI l .none,p.av] (NP (oV l p)):=B2 (aZ (bP l (.inl rfl)) (uL p)) (n7 _) (YA l p hl)
end Go.Proofs.YthnhbmlefiafaaaGreatDoor
