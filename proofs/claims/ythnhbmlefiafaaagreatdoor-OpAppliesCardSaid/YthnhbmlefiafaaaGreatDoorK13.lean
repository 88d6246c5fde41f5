/- Parts of the proof, one behind the other. No further condition. -/
import Derived.Test.YthnhbmlefiafaaaGreatDoorK12
import Derived.Lib.Bytealg
import Derived.MapKept
import Derived.Maps.RangeRun
set_option linter.unusedVariables false
set_option linter.unusedSimpArgs false
set_option maxRecDepth 100000
set_option maxHeartbeats 8000000
namespace Go.Proofs.YthnhbmlefiafaaaGreatDoor
open Go.Ab
def g8 (m:Mt):List Int:=[m.size,m.mode,(m.ch.length:Int)]++m.ch
def cX (l:List Int):aG:=(l.map fun n=>eU n.toNat).flatten
def tX (m:Mt):aG×Int:=if mV m=true then (cX (g8 m),0) else ([],1)
def cI (m:Mt) (no:Bool):aG×Int:=if no=true then ([0],0) else if (tX m).2=0 then (1::(tX m).1,0) else ([],(tX m).2)
def kF (x:aG×Int):AV:=.tup [.str x.1,.int .i64 x.2]
theorem bM (x:aG×Int):aP (kF x):=aW (aZ aR aB)
theorem qC {l:List Int} {i:Nat} {x:Int} (h:l.take (i+1)=l.take i++[x]):cX (l.take (i+1))=cX (l.take i)++eU x.toNat:=by
 unfold cX
 rw[h,List.map_append,List.flatten_append]
 simp
theorem fH (n:Nat):(eU n).length≤5:=by
 unfold eU nb JS
 rw[List.length_cons]
 have:=(List.dropWhile_sublist (fun b:UInt8=>b==0) (l:=(tL n).take 4)).length_le
 rw[List.length_take] at this
 omega
theorem gI (l:List Int):(cX l).length≤5*l.length:=by
 unfold cX
 induction l with
 |nil=>simp
 |cons x r ih=>
  have:=fH x.toNat
  simp at ih ⊢
  omega
theorem NB {m:Mt} (h:mV m=true):∀x,x∈g8 m→0≤x∧x≤4294967295:=by
 unfold mV K0 at h
 simp at h
 obtain⟨h1,⟨⟨h2,h3⟩,h4⟩,h5⟩:=h
 intro x hx
 unfold g8 at hx
 simp at hx
 rcases hx with rfl|rfl|rfl|hx
 ·omega
 ·omega
 ·omega
 ·exact h1 x hx
theorem xW {m:Mt} (h:mV m=true):(g8 m).length≤19:=by
 unfold mV K0 at h
 simp at h
 unfold g8
 simp
 omega
theorem a3a (m:Mt) (hl:m.ch.length < 1000000):aN Tryz.prog 122 [m.av] (kF (tX m)):=by
 refine aT (aY (iB m)) (bM _) ?_
 refine aC aF Tryz.func122 rfl (by decide) (by simp[Tryz.f122]) ?_
 have lc:=aU (fun n=>AV.int .i64 n) m.ch
 have k1:=LJ m hl
 unfold tX
 cases h:mV m
 ·rw[h] at k1
  rw[if_neg (by simp)]
  repeat' (first|refine zA rfl ?_|refine aA ?_|refine aJ rfl ?_|refine aD rfl k1 ?_)
  exact⟨rfl,_,rfl,_,rfl,aH.of_closed (bM ([],1))⟩
 ·rw[h] at k1
  rw[if_pos rfl]
  have hin:=NB h
  have hlen:=xW h
  repeat' (first|refine MW rfl x6.v72 ?_|refine zI rfl lc ?_|refine zA rfl ?_|refine aA ?_|refine aJ rfl ?_|refine aD rfl k1 ?_|refine zR rfl ?_|refine zQ rfl ?_)
  have hl3:((([AV.int .i64 m.size,AV.int .i64 m.mode,AV.int .i64 (m.ch.length:Int)]++m.ch.map fun n=>AV.int .i64 n).length:Nat):Int)=((g8 m).length:Int):=by simp[g8]
  rw[hl3]
  have hc0:∀i,0 < i→cX ((g8 m).take i)≠[]:=by
   intro i hi
   obtain⟨j,rfl⟩:∃j,i=j+1:=⟨i - 1,by omega⟩
   unfold cX g8 eU
   simp
  refine aX (g8 m).length (fun i f N=>RL 2 (cX ((g8 m).take i)) N∧f=⟨[(4,.ptr 0 0),(22,iA (g8 m) .none),(23,.int .i64 ((g8 m).length:Int)),(24,.int .i64 (i:Int))],[]⟩) (Nat.zero_le _) ⟨.inl ⟨rfl,rfl⟩,rfl⟩ (aM.le ?_ (aI.le_cons rfl (aI.le_nil rfl))) ?_
  ·have h22:∀t,Sub (.sl 1 ([AV.int .i64 m.size,AV.int .i64 m.mode,AV.int .i64 (m.ch.length:Int)]++m.ch.map fun n=>AV.int .i64 n) t) (iA (g8 m) .none):=by
    intro t
    unfold iA g8
    rw[List.map_append]
    exact Sub.untag
   repeat' (first|exact AF.le_nil rfl|refine AF.le_cons rfl ?_|refine AF.le_sub (h22 _) ?_)
  rintro i f N hi ⟨hN,rfl⟩
  by_cases h1:i < (g8 m).length
  ·have d1:decide ((i:Int) < ((g8 m).length:Int))=true:=by simp;omega
   have hx:(g8 m)[i]? =some (g8 m)[i]:=List.getElem?_eq_getElem h1
   have fi:=aQ (i:=i) (by omega)
   have ht:=b7 hx
   have hm:=hin _ (List.getElem_mem h1)
   generalize (g8 m)[i]=x at hx ht hm
   have kx:=nP (m:=x.toNat) (by omega)
   rw[show ((x.toNat:Nat):Int)=x by omega] at kx
   have lx:=fH x.toNat
   have lc2:=gI ((g8 m).take i)
   rw[List.length_take] at lc2
   unfold iA
   repeat' (first|refine zB rfl d1 ?_|refine zA rfl ?_|refine aA ?_|refine aJ rfl ?_|refine aD rfl kx ?_|refine zX rfl (c7 hx) ?_)
   refine cU rfl rfl (zJ (by decide) hN (by simp[eU]) (by omega)) ?_ (fun u M' h=>by cases h.1)
   rintro u N' ⟨e,N2,hN2,hle⟩
   cases e
   repeat' (first|refine zI rfl fi ?_|refine zA rfl ?_|refine aA ?_|refine aJ rfl ?_)
   refine⟨h1,_,_,⟨?_,rfl⟩,aM.le ?_ hle⟩
   ·rw[qC ht]
    exact hN2
   ·skip
    repeat (refine AF.le_cons rfl ?_)
    exact AF.le_nil rfl
  ·have d1:decide ((i:Int) < ((g8 m).length:Int))=false:=by simp;omega
   obtain rfl:i=(g8 m).length:=by omega
   rw[List.take_length] at hN
   have lc2:=gI (g8 m)
   repeat' (first|refine zB rfl d1 ?_|refine aA ?_|refine aJ rfl ?_)
   refine cU rfl rfl (PA (by decide) hN ?_ (by omega)) ?_ (fun u M' h=>by cases h.1)
   ·have:=hc0 (g8 m).length (by unfold g8;simp)
    rw[List.take_length] at this
    exact this
   rintro u N' ⟨e,hn⟩
   cases e
   repeat' (first|refine zA rfl ?_|refine aA ?_|refine aJ rfl ?_)
   exact⟨rfl,_,rfl,_,rfl,aH.of_closed (bM (cX (g8 m),0))⟩
theorem K2 (m:Mt) (no:Bool) (hl:m.ch.length < 1000000):aN Tryz.prog 69 [m.av,.bool no] (kF (cI m no)):=by
 refine aT (aZ (iB m) aL) (bM _) ?_
 refine aC aF Tryz.func69 rfl (by decide) (by simp[Tryz.f69]) ?_
 have k1:=a3a m hl
 unfold cI
 cases no
 ·unfold tX at k1 ⊢
  cases h:mV m
  ·rw[h,if_neg (by simp)] at k1
   rw[if_neg (by simp),if_neg (by simp)]
   repeat' (first|refine zA rfl ?_|refine aA ?_|refine aJ rfl ?_|refine aD rfl k1 ?_)
   exact⟨rfl,_,rfl,_,rfl,aH.of_closed (bM ([],1))⟩
  ·rw[h,if_pos rfl] at k1
   rw[if_neg (by simp),if_pos rfl]
   have lb:=gI (g8 m)
   have lm:=xW h
   have hcat:[1].length+(cX (g8 m)).length≤9223372036854775807∧[1]++cX (g8 m)=1::cX (g8 m):=⟨by simp;omega,rfl⟩
   repeat' (first|refine zA rfl ?_|refine aA ?_|refine aJ rfl ?_|refine aD rfl k1 ?_|refine lW rfl (hcat) ?_)
   exact⟨rfl,_,rfl,_,rfl,aH.of_closed (bM (1::cX (g8 m),0))⟩
 ·rw[if_pos rfl]
  repeat' (first|refine zA rfl ?_|refine aA ?_|refine aJ rfl ?_)
  exact⟨rfl,_,rfl,_,rfl,aH.of_closed (bM ([0],0))⟩
def GV (b:Bool):eI:=if b=true then .full else .none
def oQ {α:Type} (l:List α) (p:α→Bool):Int:=if l.findIdx p < l.length then (l.findIdx p:Int) else -1
theorem l6 {α:Type} {l:List α} {p:α→Bool} (h:∀(j:Nat) x,l[j]? =some x→p x=false):oQ l p=-1:=by
 unfold oQ
 rw[if_neg]
 intro hl
 have h1:=List.findIdx_getElem (w:=hl)
 rw[h _ _ (List.getElem?_eq_getElem hl)] at h1
 cases h1
theorem pM {α:Type} {l:List α} {p:α→Bool} {i:Nat} {x:α} (h:∀(j:Nat) y,j < i→l[j]? =some y→p y=false) (hx:l[i]? =some x) (hp:p x=true):oQ l p=i:=by
 obtain⟨hi,rfl⟩:=List.getElem?_eq_some_iff.1 hx
 have h1:l.findIdx p=i:=by
  rw[List.findIdx_eq hi]
  refine⟨hp,fun j hj=>?_⟩
  have:=h j l[j] hj (List.getElem?_eq_getElem (by omega))
  simpa using this
 unfold oQ
 rw[h1,if_pos hi]
theorem slL {sz:Nat} {xs ys:List AV} {t:eI} (hx:∀x,x∈xs→x.cells.length=sz) (hy:∀y,y∈ys→y.cells.length=sz) (hl:xs.length=ys.length) (h:∀(i:Nat) (x y:AV) (j:Nat) (a b:AV),xs[i]? =some x→ys[i]? =some y→x.cells[j]? =some a→y.cells[j]? =some b→Ab.Sub a b):Ab.Sub (.sl sz xs t) (.sl sz ys t):=by
 intro μ F w v hr
 cases hr with
 |sl _ _ _ A cap ad vals hsz hcap hA hone hcell hrep htag=>
  have get:∀(i:Nat) (y:AV) (j:Nat) (b:AV),ys[i]? =some y→y.cells[j]? =some b→∃x a,xs[i]? =some x∧x.cells[j]? =some a:=by
   intro i y j b h1 h2
   have hi:i < xs.length:=by rw[hl];exact (List.getElem?_eq_some_iff.1 h1).1
   have hj:j < sz:=by rw[←hy y (List.mem_of_getElem? h1)];exact (List.getElem?_eq_some_iff.1 h2).1
   have hm:=hx xs[i] (List.getElem_mem hi)
   exact⟨xs[i],_,List.getElem?_eq_getElem hi,List.getElem?_eq_getElem (by rw[hm];exact hj)⟩
  rw[hl] at hcap hA htag ⊢
  refine .sl sz ys t A cap ad vals hy hcap hA ?_ ?_ ?_ htag
  ·intro i y j b h1 h2
   obtain⟨x,a,h3,h4⟩:=get i y j b h1 h2
   exact hone i x j a h3 h4
  ·intro i y j b h1 h2
   obtain⟨x,a,h3,h4⟩:=get i y j b h1 h2
   exact hcell i x j a h3 h4
  ·intro i y j b h1 h2
   obtain⟨x,a,h3,h4⟩:=get i y j b h1 h2
   exact h i x y j a b h3 h1 h4 h2 μ F w _ (hrep i x j a h3 h4)
structure Ch where
 path:aG
 gone:Bool
 meta_:Mt
deriving DecidableEq
def Ch.cells (c:Ch):List AV:=[.str c.path,.bool c.gone,.int .i64 c.meta_.size,.int .i64 c.meta_.mode,iA c.meta_.ch .none]
def Ch.av (c:Ch):AV:=.agg c.cells
theorem y9 (c:Ch):∀x,x∈c.cells→aP x:=by
 intro x hx
 simp[Ch.cells] at hx
 rcases hx with rfl|rfl|rfl|rfl|rfl
 ·exact aR
 ·exact aL
 ·exact aB
 ·exact aB
 ·exact i9 _ (.inl rfl)
theorem R8 (c:Ch):aP c.av:=cP (y9 c)
theorem CH (l:List Ch):∀x,x∈l.map Ch.av→∀c,c∈x.cells→aP c:=by
 intro x hx
 obtain⟨p,_,rfl⟩:=List.mem_map.1 hx
 exact y9 p
def gS (l:List Ch) (t:eI):AV:=.sl 5 (l.map Ch.av) t
theorem eN (l:List Ch) {t:eI} (ht:t=.none∨t=.full):aP (gS l t):=c8 ht (fun x hx=>by obtain⟨p,_,rfl⟩:=List.mem_map.1 hx;exact R8 p) (CH l)
def qT (m:Mt):Bool:=decide (m.size=0)&&decide (m.mode=0)&&decide ((m.ch.length:Int)=0)
def gE (c:Ch):Bool:=!(c.path==[])&&cS c.path&&mV c.meta_&&(!c.gone||qT c.meta_)
abbrev tW (l:List Ch):Prop:=l.Pairwise fun a b=>bl a.path b.path=true
def cL (l:List Ch):Bool:=decide (1≤l.length)&&decide (l.length≤20)&&l.all gE&&decide (tW l)
def fE (c:Ch):Prop:=c.path.length < 1000000∧c.meta_.ch.length < 1000000
theorem KG:∀a b:aG,decide (0≤Lib.compareBytes a b)=!bl a b
 |[],[]=>rfl
 |[],_::_=>rfl
 |_::_,[]=>rfl
 |a::x,b::y=>by
  unfold Lib.compareBytes Op.bytesLess
  by_cases h1:a < b
  ·simp[h1]
  ·by_cases h2:b < a
   ·have:a≠b:=fun e=>by subst e;exact absurd h2 (by simp)
    simp[h1,h2,this]
   ·have:a=b:=UInt8.le_antisymm (UInt8.not_lt.1 h2) (UInt8.not_lt.1 h1)
    subst this
    simp only[h1,if_false,BEq.rfl,Bool.true_and,decide_false,Bool.false_or]
    exact KG x y
theorem a0v (a b:aG):a5n Tryz.prog 199 [.str a,.str b] (.int .i64 (Lib.compareBytes a b)):=by
 intro μ F w vs hv
 obtain⟨hl,hr⟩:=hv
 match vs,hl with
 |⟨[x,y]⟩,_=>
  have h1:=hr 0 _ x rfl rfl
  have h2:=hr 1 _ y rfl rfl
  cases h1
  cases h2
  refine⟨_,?_,.int _ _⟩
  have:=run_callFunc_extern (P:=Tryz.prog) Tryz.func199 (by kernel_rfl) (by kernel_rfl) (by kernel_rfl) (e:=Extern.BytealgCompare.compare) (by kernel_rfl) #[.string ⟨a.toArray⟩,.string ⟨b.toArray⟩] w
  rw[Lib.run_compareString] at this
  simpa [Result.andThen] using this
theorem SI (a b:aG):aN Tryz.prog 175 [.str a,.str b] (.int .i64 (Lib.compareBytes a b)):=by
 intro M
 refine aC aF Tryz.func175 rfl (by decide) (by simp[Tryz.f175]) ?_
 repeat' (first|refine zA rfl ?_|refine aA ?_|refine aJ rfl ?_)
 refine a5h rfl rfl rfl rfl rfl (a0v a b) ?_
 repeat' (first|refine zA rfl ?_|refine aA ?_|refine aJ rfl ?_)
 exact⟨rfl,_,rfl,rfl,rfl⟩
theorem JA (a b:aG):aN Tryz.prog 135 [.str a,.str b] (.int .i64 (Lib.compareBytes a b)):=by
 intro M
 refine aC aF Tryz.func135 rfl (by decide) (by simp[Tryz.f135]) ?_
 have k:=SI a b
 repeat' (first|refine zA rfl ?_|refine aA ?_|refine aJ rfl ?_|refine aD rfl k ?_)
 exact⟨rfl,_,rfl,rfl,rfl⟩
theorem ZW (a b:Ch):aN Tryz.prog 80 [a.av,b.av] (.int .i64 (Lib.compareBytes a.path b.path)):=by
 intro M
 refine aC aF Tryz.func80 rfl (by decide) (by simp[Tryz.f80]) ?_
 have k:=JA a.path b.path
 repeat' (first|refine zA rfl ?_|refine aA ?_|refine aJ rfl ?_|refine aD rfl k ?_)
 exact⟨rfl,_,rfl,rfl,rfl⟩
theorem kV (c:Ch):(decide (c.meta_.size=0)=false∧qT c.meta_=false)∨(decide (c.meta_.size=0)=true∧decide (c.meta_.mode=0)=false∧qT c.meta_=false)∨(decide (c.meta_.size=0)=true∧decide (c.meta_.mode=0)=true∧qT c.meta_=decide ((c.meta_.ch.length:Int)=0)):=by
 unfold qT
 cases decide (c.meta_.size=0)<;>cases decide (c.meta_.mode=0)<;>simp
theorem TA (c:Ch):((!(c.path==[]))=false∧gE c=false)∨((!(c.path==[]))=true∧cS c.path=false∧gE c=false)∨((!(c.path==[]))=true∧cS c.path=true∧mV c.meta_=false∧gE c=false)∨
  ((!(c.path==[]))=true∧cS c.path=true∧mV c.meta_=true∧(!c.gone)=true∧gE c=true)∨((!(c.path==[]))=true∧cS c.path=true∧mV c.meta_=true∧(!c.gone)=false∧gE c=qT c.meta_):=by
 unfold gE
 cases (!(c.path==[]))<;>cases cS c.path<;>cases mV c.meta_<;>cases c.gone<;>simp
theorem a5f (c:Ch) (hs:fE c):aN Tryz.prog 134 [c.av] (.bool (gE c)):=by
 intro M
 refine aC aF Tryz.func134 rfl (by decide) (by simp[Tryz.f134]) ?_
 have k1:=mG c.path (by have:=hs.1;omega)
 have k2:=LJ c.meta_ hs.2
 have lc:=aU (fun n=>AV.int .i64 n) c.meta_.ch
 rcases TA c with ⟨d1,e⟩|⟨d1,d2,e⟩|⟨d1,d2,d3,e⟩|⟨d1,d2,d3,d5,e⟩|⟨d1,d2,d3,d5,e⟩
 ·rw[e]
  rcases kV c with ⟨z1,_⟩|⟨z1,z2,_⟩|⟨z1,z2,_⟩
  ·repeat' (first|refine zB rfl (by first|exact d1|exact z1) ?_|refine zA rfl ?_|refine aA ?_|refine aJ rfl ?_)
   exact⟨rfl,_,rfl,rfl,rfl⟩
  ·repeat' (first|refine zB rfl (by first|exact d1|exact z1|exact z2) ?_|refine zA rfl ?_|refine aA ?_|refine aJ rfl ?_)
   exact⟨rfl,_,rfl,rfl,rfl⟩
  ·repeat' (first|refine zB rfl (by first|exact d1|exact z1|exact z2) ?_|refine zI rfl lc ?_|refine zA rfl ?_|refine aA ?_|refine aJ rfl ?_)
   exact⟨rfl,_,rfl,rfl,rfl⟩
 ·rw[e]
  rw[d2] at k1
  rcases kV c with ⟨z1,_⟩|⟨z1,z2,_⟩|⟨z1,z2,_⟩
  ·repeat' (first|refine zB rfl (by first|exact d1|exact z1) ?_|refine zA rfl ?_|refine aA ?_|refine aJ rfl ?_|refine aD rfl k1 ?_)
   exact⟨rfl,_,rfl,rfl,rfl⟩
  ·repeat' (first|refine zB rfl (by first|exact d1|exact z1|exact z2) ?_|refine zA rfl ?_|refine aA ?_|refine aJ rfl ?_|refine aD rfl k1 ?_)
   exact⟨rfl,_,rfl,rfl,rfl⟩
  ·repeat' (first|refine zB rfl (by first|exact d1|exact z1|exact z2) ?_|refine zI rfl lc ?_|refine zA rfl ?_|refine aA ?_|refine aJ rfl ?_|refine aD rfl k1 ?_)
   exact⟨rfl,_,rfl,rfl,rfl⟩
 ·rw[e]
  rw[d2] at k1
  rw[d3] at k2
  rcases kV c with ⟨z1,_⟩|⟨z1,z2,_⟩|⟨z1,z2,_⟩
  ·repeat' (first|refine zB rfl (by first|exact d1|exact z1) ?_|refine zA rfl ?_|refine aA ?_|refine aJ rfl ?_|refine aD rfl k1 ?_|refine aD rfl k2 ?_)
   exact⟨rfl,_,rfl,rfl,rfl⟩
  ·repeat' (first|refine zB rfl (by first|exact d1|exact z1|exact z2) ?_|refine zA rfl ?_|refine aA ?_|refine aJ rfl ?_|refine aD rfl k1 ?_|refine aD rfl k2 ?_)
   exact⟨rfl,_,rfl,rfl,rfl⟩
  ·repeat' (first|refine zB rfl (by first|exact d1|exact z1|exact z2) ?_|refine zI rfl lc ?_|refine zA rfl ?_|refine aA ?_|refine aJ rfl ?_|refine aD rfl k1 ?_|refine aD rfl k2 ?_)
   exact⟨rfl,_,rfl,rfl,rfl⟩
 ·rw[e]
  rw[d2] at k1
  rw[d3] at k2
  rcases kV c with ⟨z1,_⟩|⟨z1,z2,_⟩|⟨z1,z2,_⟩
  ·repeat' (first|refine zB rfl (by first|exact d1|exact z1|exact d5) ?_|refine zA rfl ?_|refine aA ?_|refine aJ rfl ?_|refine aD rfl k1 ?_|refine aD rfl k2 ?_)
   exact⟨rfl,_,rfl,rfl,rfl⟩
  ·repeat' (first|refine zB rfl (by first|exact d1|exact z1|exact z2|exact d5) ?_|refine zA rfl ?_|refine aA ?_|refine aJ rfl ?_|refine aD rfl k1 ?_|refine aD rfl k2 ?_)
   exact⟨rfl,_,rfl,rfl,rfl⟩
  ·repeat' (first|refine zB rfl (by first|exact d1|exact z1|exact z2|exact d5) ?_|refine zI rfl lc ?_|refine zA rfl ?_|refine aA ?_|refine aJ rfl ?_|refine aD rfl k1 ?_|refine aD rfl k2 ?_)
   exact⟨rfl,_,rfl,rfl,rfl⟩
 ·rw[e]
  rw[d2] at k1
  rw[d3] at k2
  rcases kV c with ⟨z1,h⟩|⟨z1,z2,h⟩|⟨z1,z2,h⟩
  ·rw[h]
   repeat' (first|refine zB rfl (by first|exact d1|exact z1|exact d5) ?_|refine zA rfl ?_|refine aA ?_|refine aJ rfl ?_|refine aD rfl k1 ?_|refine aD rfl k2 ?_)
   exact⟨rfl,_,rfl,rfl,rfl⟩
  ·rw[h]
   repeat' (first|refine zB rfl (by first|exact d1|exact z1|exact z2|exact d5) ?_|refine zA rfl ?_|refine aA ?_|refine aJ rfl ?_|refine aD rfl k1 ?_|refine aD rfl k2 ?_)
   exact⟨rfl,_,rfl,rfl,rfl⟩
  ·rw[h]
   repeat' (first|refine zB rfl (by first|exact d1|exact z1|exact z2|exact d5) ?_|refine zI rfl lc ?_|refine zA rfl ?_|refine aA ?_|refine aJ rfl ?_|refine aD rfl k1 ?_|refine aD rfl k2 ?_)
   exact⟨rfl,_,rfl,rfl,rfl⟩
theorem a2m (c:Ch) (hs:fE c):aN Tryz.prog 133 [c.av] (.bool (!gE c)):=by
 intro M
 refine aC aF Tryz.func133 rfl (by decide) (by simp[Tryz.f133]) ?_
 have k:=a5f c hs
 repeat' (first|refine zA rfl ?_|refine aA ?_|refine aJ rfl ?_|refine aD rfl k ?_)
 exact⟨rfl,_,rfl,rfl,rfl⟩
theorem SN (l:List Ch) (tg:eI) (hl:l.length < 1000000) (g:FuncId) (fi ca:List AV) (p:Ch→Bool) (hp:∀x,x∈l→aN Tryz.prog g (fi++[x.av]++ca) (.bool (p x))):aN Tryz.prog 173 [.sl 5 (l.map Ch.av) tg,.fn (.func g) fi ca] (.int .i64 (oQ l p)):=by
 intro M
 refine aC aF Tryz.func173 rfl (by decide) (by simp[Tryz.f173]) ?_
 have la:((l.map Ch.av).length:Int)=(l.length:Int):=by simp
 repeat' (first|refine zI rfl la ?_|refine zA rfl ?_|refine aA ?_|refine aJ rfl ?_)
 refine aX l.length (fun i f N=>N=M∧(∀(j:Nat) y,j < i→l[j]? =some y→p y=false)∧f=⟨[(0,.sl 5 (l.map Ch.av) tg),(1,.fn (.func g) fi ca),(7,.int .i64 (l.length:Int)),(8,.int .i64 (i:Int))],[]⟩) (Nat.zero_le _) ⟨rfl,fun j y hj=>absurd hj (Nat.not_lt_zero _),rfl⟩ (aM.le ?_ (aI.le_refl _)) ?_
 ·skip
  repeat (refine AF.le_cons rfl ?_)
  exact AF.le_nil rfl
 ·rintro i f N hi ⟨rfl,hno,rfl⟩
  by_cases h1:i < l.length
  ·have d1:decide ((i:Int) < (l.length:Int))=true:=by simp;omega
   have hx:l[i]? =some l[i]:=List.getElem?_eq_getElem h1
   have fi:=aQ (i:=i) (by omega)
   have hk:=hp l[i] (List.getElem_mem h1)
   generalize l[i]=x at hx hk
   cases hpx:p x
   ·rw[hpx] at hk
    repeat' (first|refine zB rfl d1 ?_|refine zA rfl ?_|refine aA ?_|refine aJ rfl ?_)
    refine zX rfl (c7 hx) ?_
    repeat' (first|refine zI rfl fi ?_|refine zA rfl ?_|refine aA ?_|refine aJ rfl ?_|refine aD rfl hk ?_)
    refine⟨h1,_,_,⟨rfl,?_,rfl⟩,aM.le ?_ (aI.le_refl _)⟩
    ·intro j y hj hy
     by_cases hji:j=i
     ·subst hji
      rw[hx] at hy
      cases hy
      exact hpx
     ·exact hno j y (by omega) hy
    ·skip
     repeat (refine AF.le_cons rfl ?_)
     exact AF.le_nil rfl
   ·rw[hpx] at hk
    repeat' (first|refine zB rfl d1 ?_|refine zA rfl ?_|refine aA ?_|refine aJ rfl ?_)
    refine zX rfl (c7 hx) ?_
    repeat' (first|refine zA rfl ?_|refine aA ?_|refine aJ rfl ?_|refine aD rfl hk ?_)
    exact⟨rfl,_,rfl,by rw[pM hno hx hpx];rfl,rfl⟩
  ·have d1:decide ((i:Int) < (l.length:Int))=false:=by simp;omega
   obtain rfl:i=l.length:=by omega
   repeat' (first|refine zB rfl d1 ?_|refine zA rfl ?_|refine aA ?_|refine aJ rfl ?_)
   exact⟨rfl,_,rfl,by rw[l6 (fun j y hy=>hno j y (List.getElem?_eq_some_iff.1 hy).1 hy)];rfl,rfl⟩
theorem a3c {α:Type} (l:List α) (p:α→Bool):decide (0≤oQ l p)=l.any p:=by
 cases h:l.any p
 ·rw[List.any_eq_false] at h
  rw[l6 (fun j x hx=>by have:=h x (List.mem_of_getElem? hx);simpa using this)]
  rfl
 ·rw[List.any_eq_true] at h
  obtain⟨x,hx,hp⟩:=h
  unfold oQ
  rw[if_pos (List.findIdx_lt_length_of_exists ⟨x,hx,hp⟩)]
  exact decide_eq_true (Int.natCast_nonneg _)
theorem UB (l:List Ch) (tg:eI) (hl:l.length < 1000000) (hs:∀c,c∈l→fE c):aN Tryz.prog 132 [gS l tg,.fn (.func 133) [] []] (.bool (l.any fun c=>!gE c)):=by
 intro M
 refine aC aF Tryz.func132 rfl (by decide) (by simp[Tryz.f132]) ?_
 have k:=SN l tg hl 133 [] [] (fun c=>!gE c) (fun x hx=>a2m x (hs x hx))
 have e:=a3c l (fun c=>!gE c)
 unfold gS
 repeat' (first|refine zB rfl e ?_|refine zA rfl ?_|refine aA ?_|refine aJ rfl ?_|refine aD rfl k ?_)
 exact⟨rfl,_,rfl,rfl,rfl⟩
theorem a5c (l:List Ch) (tg:eI) (hl:l.length < 1000000) (hs:∀c,c∈l→fE c):aN Tryz.prog 78 [gS l tg] (.bool (l.any fun c=>!gE c)):=by
 intro M
 refine aC aF Tryz.func78 rfl (by decide) (by simp[Tryz.f78]) ?_
 have k:=UB l tg hl hs
 unfold gS at k ⊢
 repeat' (first|refine zA rfl ?_|refine aA ?_|refine aJ rfl ?_|refine aD rfl k ?_)
 exact⟨rfl,_,rfl,rfl,rfl⟩
theorem vX:∀l:List Ch,(∀(j:Nat) a b,l[j]? =some a→l[j+1]? =some b→bl a.path b.path=true)→tW l
 |[],_=>List.Pairwise.nil
 |[a],_=>List.pairwise_cons.2 ⟨by simp,List.Pairwise.nil⟩
 |a::b::r,h=>by
  have ih:=vX (b::r) (fun j x y hx hy=>h (j+1) x y hx hy)
  have h0:=h 0 a b rfl rfl
  refine List.pairwise_cons.2 ⟨fun x hx=>?_,ih⟩
  rcases List.mem_cons.1 hx with rfl|hx
  ·exact h0
  ·exact sM h0 ((List.pairwise_cons.1 ih).1 x hx)
theorem J4 {l:List Ch} (h:tW l) {i:Nat} {a b:Ch} (ha:l[i]? =some a) (hb:l[i+1]? =some b):bl a.path b.path=true:=by
 obtain⟨h1,rfl⟩:=List.getElem?_eq_some_iff.1 ha
 obtain⟨h2,rfl⟩:=List.getElem?_eq_some_iff.1 hb
 exact List.pairwise_iff_getElem.1 h i (i+1) h1 h2 (Nat.lt_succ_self i)
theorem a0x (l:List Ch) (tg:eI) (hl:l.length < 1000000) (h1:1≤l.length):aN Tryz.prog 79 [gS l tg,.fn (.func 80) [] []] (.bool (decide (tW l))):=by
 intro M
 refine aC aF Tryz.func79 rfl (by decide) (by simp[Tryz.f79]) ?_
 have la:=aU Ch.av l
 unfold gS
 repeat' (first|refine zA rfl ?_|refine aA ?_|refine aJ rfl ?_)
 refine aX l.length (fun i f N=>N=M∧(1≤i∧∀(j:Nat) a b,j+1 < i→l[j]? =some a→l[j+1]? =some b→bl a.path b.path=true)∧f=⟨[(0,.sl 5 (l.map Ch.av) tg),(1,.fn (.func 80) [] []),(5,.int .i64 (i:Int))],[]⟩) (i0:=1) h1 ⟨rfl,⟨Nat.le_refl _,fun j a b hj=>absurd hj (by omega)⟩,rfl⟩ (aM.le ?_ (aI.le_refl _)) ?_
 ·skip
  repeat (refine AF.le_cons rfl ?_)
  exact AF.le_nil rfl
 rintro i f N hi ⟨rfl,⟨hi1,hinv⟩,rfl⟩
 by_cases h2:i < l.length
 ·have d1:decide ((i:Int) < (l.length:Int))=true:=by simp;omega
  obtain⟨j,rfl⟩:∃j,i=j+1:=⟨i - 1,by omega⟩
  have hx:l[j]? =some l[j]:=List.getElem?_eq_getElem (by omega)
  have hy:l[j+1]? =some l[j+1]:=List.getElem?_eq_getElem h2
  have fi:=aQ (i:=j+1) (by omega)
  have fj:IntKind.wrap .i64 (((j+1:Nat):Int) - 1)=(j:Int):=(Go.Ab.wrap_small (by omega) (by omega)).trans (by omega)
  generalize l[j]=x at hx
  generalize l[j+1]=y at hy
  have k:=ZW x y
  have e:=KG x.path y.path
  cases hb:bl x.path y.path
  ·rw[hb] at e
   rw[decide_eq_false (fun h=>by have:=J4 h hx hy;rw[hb] at this;cases this)]
   repeat' (first|refine zB rfl (by first|exact d1|exact e) ?_|refine zI rfl (by first|exact la|exact fj) ?_|refine zA rfl ?_|refine aA ?_|refine aJ rfl ?_|refine aD rfl k ?_|refine zX rfl (c7 hx) ?_|refine zX rfl (c7 hy) ?_|refine aO mixed [0,1,2,3,6,7,4,5,8,9,10,11] [.P,.P,.P,.P,.R,.R,.P,.P,.R,.R,.P,.P] rfl rfl (by kernel_rfl) ?_)
   exact⟨rfl,_,rfl,rfl,rfl⟩
  ·rw[hb] at e
   repeat' (first|refine zB rfl (by first|exact d1|exact e) ?_|refine zI rfl (by first|exact la|exact fi|exact fj) ?_|refine zA rfl ?_|refine aA ?_|refine aJ rfl ?_|refine aD rfl k ?_|refine zX rfl (c7 hx) ?_|refine zX rfl (c7 hy) ?_|refine aO mixed [0,1,2,3,6,7,4,5,8,9,10,11] [.P,.P,.P,.P,.R,.R,.P,.P,.R,.R,.P,.P] rfl rfl (by kernel_rfl) ?_)
   refine⟨h2,_,_,⟨rfl,⟨by omega,?_⟩,rfl⟩,aM.le ?_ (aI.le_refl _)⟩
   ·intro q a b hq ha hb2
    by_cases hqj:q=j
    ·subst hqj
     rw[hx] at ha
     rw[hy] at hb2
     cases ha
     cases hb2
     exact hb
    ·exact hinv q a b (by omega) ha hb2
   ·skip
    repeat (refine AF.le_cons rfl ?_)
    exact AF.le_nil rfl
 ·have d1:decide ((i:Int) < (l.length:Int))=false:=by simp;omega
  obtain rfl:i=l.length:=by omega
  rw[decide_eq_true (vX l fun j a b ha hb=>hinv j a b (List.getElem?_eq_some_iff.1 hb).1 ha hb)]
  repeat' (first|refine zB rfl d1 ?_|refine zI rfl la ?_|refine zA rfl ?_|refine aA ?_|refine aJ rfl ?_)
  exact⟨rfl,_,rfl,rfl,rfl⟩
theorem zK (l:List Ch) (tg:eI) (hl:l.length < 1000000) (hs:∀c,c∈l→fE c):aN Tryz.prog 41 [gS l tg] (.bool (cL l)):=by
 intro M
 refine aC aF Tryz.func41 rfl (by decide) (by simp[Tryz.f41]) ?_
 have la:=aU Ch.av l
 have ko:=a5c l tg hl hs
 have e:(l.any fun c=>!gE c)=!l.all gE:=by
  rw[List.any_eq_not_all_not]
  simp
 rw[e] at ko
 unfold cL
 by_cases h1:1≤l.length
 ·have d1:decide ((1:Int)≤(l.length:Int))=true:=by simp;omega
  have kr:=a0x l tg hl h1
  rw[decide_eq_true h1]
  by_cases h2:l.length≤20
  ·have d2:decide ((l.length:Int)≤20)=true:=by simp;omega
   rw[decide_eq_true h2]
   cases h3:l.all gE
   ·rw[h3] at ko
    unfold gS at*
    repeat' (first|refine zB rfl (by first|exact d1|exact d2) ?_|refine zI rfl la ?_|refine zA rfl ?_|refine aA ?_|refine aJ rfl ?_|refine aD rfl ko ?_)
    exact⟨rfl,_,rfl,rfl,rfl⟩
   ·rw[h3] at ko
    unfold gS at*
    repeat' (first|refine zB rfl (by first|exact d1|exact d2) ?_|refine zI rfl la ?_|refine zA rfl ?_|refine aA ?_|refine aJ rfl ?_|refine aD rfl ko ?_|refine aD rfl kr ?_)
    exact⟨rfl,_,rfl,rfl,rfl⟩
  ·have d2:decide ((l.length:Int)≤20)=false:=by simp;omega
   rw[decide_eq_false h2]
   unfold gS at*
   repeat' (first|refine zB rfl (by first|exact d1|exact d2) ?_|refine zI rfl la ?_|refine zA rfl ?_|refine aA ?_|refine aJ rfl ?_)
   exact⟨rfl,_,rfl,rfl,rfl⟩
 ·have d1:decide ((1:Int)≤(l.length:Int))=false:=by simp;omega
  rw[decide_eq_false h1]
  unfold gS at*
  repeat' (first|refine zB rfl d1 ?_|refine zI rfl la ?_|refine zA rfl ?_|refine aA ?_|refine aJ rfl ?_)
  exact⟨rfl,_,rfl,rfl,rfl⟩
theorem vG {c:Ch} (h:gE c=true):(cI c.meta_ c.gone).2=0:=by
 unfold gE at h
 simp at h
 unfold cI tX
 rw[if_pos h.1.2]
 split<;>rfl
theorem tM (c:UInt8):∀s:aG,(∀b,b∈s→b≠c)→bY c s=[s]
 |[],_=>rfl
 |b::l,h=>by
  unfold bY
  rw[if_neg (h b (by simp)),tM c l (fun x hx=>h x (by simp[hx]))]
theorem wJ (c:UInt8) (r:aG):∀s:aG,(∀b,b∈s→b≠c)→bY c (s++c::r)=s::bY c r
 |[],_=>by
  show bY c (c::r)=_
  rw[bY,if_pos rfl]
 |b::l,h=>by
  show bY c (b::(l++c::r))=_
  rw[bY,if_neg (h b (by simp)),wJ c r l (fun x hx=>h x (by simp[hx]))]
structure jW (s:aG) (out:List aG) (frm i:Nat):Prop where
 le:frm≤i
 len:out.length≤frm
 no:∀b,b∈(s.take i).drop frm→b≠47
 eq:bY 47 s=out++bY 47 (s.drop frm)
theorem jW.start (s:aG):jW s [] 0 0:=⟨Nat.le_refl _,Nat.le_refl _,by simp,by simp⟩
theorem O9 {s:aG} {frm i:Nat} {b:UInt8} (h:frm≤i) (hb:s[i]? =some b):s.drop frm=(s.take i).drop frm++b::s.drop (i+1):=by
 have hi:=(List.getElem?_eq_some_iff.1 hb).1
 have h1:s=s.take i++b::s.drop (i+1):=by
  have:=List.take_append_drop i s
  rw[List.drop_eq_getElem_cons hi,(List.getElem?_eq_some_iff.1 hb).2] at this
  exact this.symm
 calc s.drop frm=(s.take i++b::s.drop (i+1)).drop frm:=by rw[←h1]
  _=(s.take i).drop frm++b::s.drop (i+1):=by
   rw[List.drop_append_of_le_length (by simp;omega)]
theorem jW.hit {s:aG} {out:List aG} {frm i:Nat} (h:jW s out frm i) (hb:s[i]? =some 47):jW s (out++[(s.take i).drop frm]) (i+1) (i+1):=by
 refine⟨Nat.le_refl _,by have:=h.len;have:=h.le;simp;omega,?_,?_⟩
 ·intro b hm
  have:((s.take (i+1)).drop (i+1))=[]:=by simp
  rw[this] at hm
  simp at hm
 ·rw[h.eq,O9 h.le hb,wJ 47 _ _ h.no]
  simp
theorem jW.miss {s:aG} {out:List aG} {frm i:Nat} (h:jW s out frm i) {b:UInt8} (hb:s[i]? =some b) (hn:b≠47):jW s out frm (i+1):=by
 have hi:=(List.getElem?_eq_some_iff.1 hb).1
 refine⟨by have:=h.le;omega,h.len,?_,h.eq⟩
 intro x hx
 rw[b7 hb,List.drop_append_of_le_length (by have:=h.le;simp;omega)] at hx
 rcases List.mem_append.1 hx with hx|hx
 ·exact h.no x hx
 ·simp at hx
  exact hx ▸ hn
theorem jW.done {s:aG} {out:List aG} {frm:Nat} (h:jW s out frm s.length):out++[s.drop frm]=bY 47 s:=by
 rw[h.eq,tM]
 intro b hb
 have:=h.no b
 rw[List.take_length] at this
 exact this hb
theorem Y6 (s:aG) (hs:s.length < 1000000):aN Tryz.prog 200 [.str s] (.sl 1 ((bY 47 s).map .str) .none):=by
 refine aT (aY aR) lQ ?_
 refine aC aF Tryz.func200 rfl (by decide) (by simp[Tryz.f200]) ?_
 repeat' (first|refine zA rfl ?_|refine aA ?_|refine aJ rfl ?_)
 refine aX s.length (fun i f N=>∃(g frm:Nat) (out:List aG),jW s out frm i∧N=tokM g∧f=⟨[(0,.str s),(3,.sl 1 (out.map .str) (.tok 0 g)),(4,.int .i64 (frm:Int)),(5,.int .i64 (i:Int))],[]⟩) (Nat.zero_le _) ⟨0,0,[],jW.start s,rfl,rfl⟩
  ((aM.tok 3 rfl (sz':=1) (.inr rfl)).trans (aM.le ?_ (cK rfl rfl))) ?_
 ·skip
  repeat (refine AF.le_cons rfl ?_)
  exact AF.le_nil rfl
 ·rintro i f N hi ⟨g,frm,out,hA,rfl,rfl⟩
  have hfl:=hA.le
  have hol:=hA.len
  by_cases h1:i < s.length
  ·have d1:decide ((i:Int) < (s.length:Int))=true:=by simp;omega
   have hx:s[i]? =some s[i]:=List.getElem?_eq_getElem h1
   have fi:=aQ (i:=i) (by omega)
   generalize s[i]=b at hx
   by_cases hb:b=47
   ·subst hb
    have d2:decide (((47:UInt8).toNat:Int)=47)=true:=rfl
    repeat' (first|refine zB rfl d1 ?_|refine zA rfl ?_|refine aA ?_|refine aJ rfl ?_)
    refine lR aF rfl rfl rfl rfl rfl rfl rfl rfl (Int.natCast_nonneg _) (c:=47) (by simpa using hx) ?_
    repeat' (first|refine zB rfl d2 ?_|refine zA rfl ?_|refine aA ?_|refine aJ rfl ?_)
    refine q8 aF rfl rfl rfl rfl rfl rfl rfl rfl rfl (Int.natCast_nonneg _) (by omega) (by omega) ?_
    repeat' (first|refine zI rfl fi ?_|refine zA rfl ?_|refine aA ?_|refine aJ rfl ?_|refine zR rfl ?_|refine zP rfl rfl ?_)
    refine⟨h1,_,_,⟨g+1,i+1,_,hA.hit hx,rfl,rfl⟩,aM.le (AF.le_cons rfl (AF.le_cons ?_ (AF.le_cons rfl (AF.le_cons rfl (AF.le_nil rfl))))) (cK rfl rfl)⟩
    exact a6p
   ·have d2:decide ((b.toNat:Int)=47)=false:=by
     simp only[decide_eq_false_iff_not]
     intro h
     apply hb
     apply UInt8.toNat_inj.1
     have:(47:UInt8).toNat=47:=rfl
     omega
    repeat' (first|refine zB rfl d1 ?_|refine zA rfl ?_|refine aA ?_|refine aJ rfl ?_)
    refine lR aF rfl rfl rfl rfl rfl rfl rfl rfl (Int.natCast_nonneg _) (c:=b) (by simpa using hx) ?_
    repeat' (first|refine zB rfl d2 ?_|refine zI rfl fi ?_|refine zA rfl ?_|refine aA ?_|refine aJ rfl ?_)
    refine⟨h1,_,_,⟨g,frm,out,hA.miss hx hb,rfl,rfl⟩,aM.le ?_ (cK rfl rfl)⟩
    repeat (refine AF.le_cons rfl ?_)
    exact AF.le_nil rfl
  ·have d1:decide ((i:Int) < (s.length:Int))=false:=by simp;omega
   obtain rfl:i=s.length:=by omega
   repeat' (first|refine zB rfl d1 ?_|refine zA rfl ?_|refine aA ?_|refine aJ rfl ?_)
   refine q8 aF rfl rfl rfl rfl rfl rfl rfl rfl rfl (Int.natCast_nonneg _) (by omega) (by omega) ?_
   repeat' (first|refine zA rfl ?_|refine aA ?_|refine aJ rfl ?_|refine zR rfl ?_|refine zP rfl rfl ?_)
   refine⟨rfl,_,rfl,_,rfl,?_⟩
   have hd:=hA.done
   have e:(out.map AV.str)++[.str ((s.take ((s.length:Int)).toNat).drop ((frm:Int)).toNat)]=(bY 47 s).map .str:=by
    rw[←hd]
    simp
   rw[←e]
   exact aH.untag (by rw[e];exact lQ)
def a1g (b:UInt8):Bool:=b==47||b==0
theorem MR (s:aG) (h:s.any a1g=false):fF s=(decide (1≤(s.length:Int))&&decide ((s.length:Int)≤30)&&!(s==[46])&&!(s==[46,46])):=by
 unfold fF
 have h':(s.any fun b=>b==47||b==0)=false:=h
 rw[h']
 have e1:(!(s==[]))=decide (1≤(s.length:Int)):=by
  cases s with
  |nil=>rfl
  |cons b l=>simp;omega
 have e2:decide (s.length≤30)=decide ((s.length:Int)≤30):=decide_eq_decide.2 (by omega)
 rw[e1,e2]
 simp
theorem LE (s:aG) (hs:s.length < 1000000):aN Tryz.prog 201 [.str s] (.bool (fF s)):=by
 intro M
 refine aC aF Tryz.func201 rfl (by decide) (by simp[Tryz.f201]) ?_
 repeat' (first|refine zA rfl ?_|refine aA ?_|refine aJ rfl ?_)
 refine aX s.length (fun i f N=>N=M∧(s.take i).any a1g=false∧f=⟨[(0,.str s),(3,.int .i64 (i:Int))],[]⟩) (Nat.zero_le _) ⟨rfl,by simp,rfl⟩ (aM.le ?_ (aI.le_refl _)) ?_
 ·skip
  repeat (refine AF.le_cons rfl ?_)
  exact AF.le_nil rfl
 ·rintro i f N hi ⟨rfl,hpre,rfl⟩
  by_cases h1:i < s.length
  ·have d1:decide ((i:Int) < (s.length:Int))=true:=by simp;omega
   have hx:s[i]? =some s[i]:=List.getElem?_eq_getElem h1
   have fi:=aQ (i:=i) (by omega)
   have ht:=b7 hx
   generalize s[i]=b at hx ht
   have hbad:∀{c:UInt8},b=c→a1g c=true→fF s=false:=by
    rintro c rfl hc
    have h:(s.any fun b=>b==47||b==0)=true:=List.any_eq_true.2 ⟨b,List.mem_of_getElem? hx,hc⟩
    unfold fF
    rw[h]
    simp
   by_cases h2:b=47
   ·have d2:decide ((b.toNat:Int)=47)=true:=by subst h2;rfl
    rw[hbad h2 rfl]
    repeat' (first|refine zB rfl d1 ?_|refine zA rfl ?_|refine aA ?_|refine aJ rfl ?_)
    refine lR aF rfl rfl rfl rfl rfl rfl rfl rfl (Int.natCast_nonneg _) (c:=b) (by simpa using hx) ?_
    repeat' (first|refine zB rfl d2 ?_|refine zA rfl ?_|refine aA ?_|refine aJ rfl ?_)
    exact⟨rfl,_,rfl,rfl,rfl⟩
   ·have d2:decide ((b.toNat:Int)=47)=false:=by
     simp only[decide_eq_false_iff_not]
     intro h
     apply h2
     apply UInt8.toNat_inj.1
     have:(47:UInt8).toNat=47:=rfl
     omega
    by_cases h3:b=0
    ·have d3:decide ((b.toNat:Int)=0)=true:=by subst h3;rfl
     rw[hbad h3 rfl]
     repeat' (first|refine zB rfl d1 ?_|refine zA rfl ?_|refine aA ?_|refine aJ rfl ?_)
     refine lR aF rfl rfl rfl rfl rfl rfl rfl rfl (Int.natCast_nonneg _) (c:=b) (by simpa using hx) ?_
     repeat' (first|refine zB rfl d2 ?_|refine zA rfl ?_)
     refine lR aF rfl rfl rfl rfl rfl rfl rfl rfl (Int.natCast_nonneg _) (c:=b) (by simpa using hx) ?_
     repeat' (first|refine zB rfl d3 ?_|refine zA rfl ?_|refine aA ?_|refine aJ rfl ?_)
     exact⟨rfl,_,rfl,rfl,rfl⟩
    ·have d3:decide ((b.toNat:Int)=0)=false:=by
      simp only[decide_eq_false_iff_not]
      intro h
      apply h3
      apply UInt8.toNat_inj.1
      have:(0:UInt8).toNat=0:=rfl
      omega
     repeat' (first|refine zB rfl d1 ?_|refine zA rfl ?_|refine aA ?_|refine aJ rfl ?_)
     refine lR aF rfl rfl rfl rfl rfl rfl rfl rfl (Int.natCast_nonneg _) (c:=b) (by simpa using hx) ?_
     repeat' (first|refine zB rfl d2 ?_|refine zA rfl ?_)
     refine lR aF rfl rfl rfl rfl rfl rfl rfl rfl (Int.natCast_nonneg _) (c:=b) (by simpa using hx) ?_
     repeat' (first|refine zB rfl d3 ?_|refine zI rfl fi ?_|refine zA rfl ?_|refine aA ?_|refine aJ rfl ?_)
     refine⟨h1,_,_,⟨rfl,?_,rfl⟩,aM.le ?_ (aI.le_refl _)⟩
     ·rw[ht,List.any_append,hpre]
      simp[a1g,h2,h3]
     ·skip
      repeat (refine AF.le_cons rfl ?_)
      exact AF.le_nil rfl
  ·have d1:decide ((i:Int) < (s.length:Int))=false:=by simp;omega
   have hl2:s.take i=s:=List.take_of_length_le (by omega)
   rw[hl2] at hpre
   rw[MR s hpre]
   cases g1:decide (1≤(s.length:Int))
   ·repeat' (first|refine zB rfl (by first|exact d1|exact g1) ?_|refine zA rfl ?_|refine aA ?_|refine aJ rfl ?_)
    exact⟨rfl,_,rfl,rfl,rfl⟩
   ·cases g2:decide ((s.length:Int)≤30)
    ·repeat' (first|refine zB rfl (by first|exact d1|exact g1|exact g2) ?_|refine zA rfl ?_|refine aA ?_|refine aJ rfl ?_)
     exact⟨rfl,_,rfl,rfl,rfl⟩
    ·cases g3:!(s==[46])
     ·repeat' (first|refine zB rfl (by first|exact d1|exact g1|exact g2|exact g3) ?_|refine zA rfl ?_|refine aA ?_|refine aJ rfl ?_)
      exact⟨rfl,_,rfl,rfl,rfl⟩
     ·repeat' (first|refine zB rfl (by first|exact d1|exact g1|exact g2|exact g3) ?_|refine zA rfl ?_|refine aA ?_|refine aJ rfl ?_)
      exact⟨rfl,_,rfl,rfl,rfl⟩
def ER (s:aG):List aG×Bool:=if s=[] then ([],true) else if (bY 47 s).all fF=true then (bY 47 s,decide (s.length≤100)) else ([],false)
theorem TG (s:aG):(ER s).2=cS s:=by
 unfold ER cS
 by_cases h:s=[]
 ·simp[h]
 ·rw[if_neg h]
  cases h2:(bY 47 s).all fF
  ·simp[h]
  ·simp[h]
def UK (l:List aG×Bool):AV:=.tup [.sl 1 (l.1.map .str) .none,.bool l.2]
theorem F5 (l:List aG×Bool):aP (UK l):=aW (aZ lQ aL)
theorem U3 (s:aG) (hs:s.length < 1000000):aN Tryz.prog 176 [.str s] (UK (ER s)):=by
 refine aT (aY aR) (F5 _) ?_
 refine aC aF Tryz.func176 rfl (by decide) (by simp[Tryz.f176]) ?_
 have k:=Y6 s hs
 have kl:=oN 47 s
 unfold ER
 by_cases h1:s=[]
 ·have d0:(s==[])=true:=by simp[h1]
  rw[if_pos h1]
  repeat' (first|refine zB rfl d0 ?_|refine zA rfl ?_|refine aA ?_|refine aJ rfl ?_)
  exact⟨rfl,_,rfl,_,rfl,aH.tup2 aH.nil (aH.of_closed aL)⟩
 ·have d0:(s==[])=false:=by simp[h1]
  rw[if_neg h1]
  generalize bY 47 s=l at k kl
  have la:((l.map AV.str).length:Int)=(l.length:Int):=by simp
  repeat' (first|refine zB rfl d0 ?_|refine zA rfl ?_|refine aA ?_|refine aJ rfl ?_)
  refine eL rfl rfl rfl rfl rfl k ?_
  repeat' (first|refine zA rfl ?_|refine aA ?_|refine aJ rfl ?_)
  refine aX l.length (fun i f N=>N=⟨0,[]⟩∧(l.take i).all fF=true∧f=⟨[(0,.str s),(4,.sl 1 (l.map AV.str) .none),(5,.int .i64 (i:Int))],[]⟩) (Nat.zero_le _) ⟨rfl,by simp,rfl⟩ (aM.le ?_ (aI.le_refl _)) ?_
  ·skip
   repeat (refine AF.le_cons rfl ?_)
   exact AF.le_nil rfl
  ·rintro i f N hi ⟨rfl,hpre,rfl⟩
   by_cases h2:i < l.length
   ·have d1:decide ((i:Int) < (l.length:Int))=true:=by simp;omega
    have hx:l[i]? =some l[i]:=List.getElem?_eq_getElem h2
    have fi:=aQ (i:=i) (by omega)
    have ht:=b7 hx
    generalize l[i]=e at hx ht
    have he:=kl.2 e (List.mem_of_getElem? hx)
    have ke:=LE e (by omega)
    cases h3:fF e
    ·have hall:¬l.all fF=true:=by
      rw[List.all_eq_true]
      intro h
      rw[h e (List.mem_of_getElem? hx)] at h3
      cases h3
     rw[h3] at ke
     rw[if_neg hall]
     repeat' (first|refine zB rfl d1 ?_|refine zI rfl la ?_|refine zA rfl ?_|refine aA ?_|refine aJ rfl ?_)
     refine zX rfl (c7 hx) ?_
     repeat' (first|refine zA rfl ?_)
     refine eL rfl rfl rfl rfl rfl ke ?_
     repeat' (first|refine zA rfl ?_|refine aA ?_|refine aJ rfl ?_)
     exact⟨rfl,_,rfl,_,rfl,aH.tup2 aH.nil (aH.of_closed aL)⟩
    ·rw[h3] at ke
     repeat' (first|refine zB rfl d1 ?_|refine zI rfl la ?_|refine zA rfl ?_|refine aA ?_|refine aJ rfl ?_)
     refine zX rfl (c7 hx) ?_
     repeat' (first|refine zA rfl ?_)
     refine eL rfl rfl rfl rfl rfl ke ?_
     repeat' (first|refine zI rfl (by first|exact la|exact fi) ?_|refine zA rfl ?_|refine aA ?_|refine aJ rfl ?_)
     refine⟨h2,_,_,⟨rfl,?_,rfl⟩,aM.le ?_ (aI.le_refl _)⟩
     ·rw[ht,List.all_append,hpre]
      simp[h3]
     ·skip
      repeat (refine AF.le_cons rfl ?_)
      exact AF.le_nil rfl
   ·have d1:decide ((i:Int) < (l.length:Int))=false:=by simp;omega
    have hl2:l.take i=l:=List.take_of_length_le (by omega)
    rw[hl2] at hpre
    rw[if_pos hpre]
    repeat' (first|refine zB rfl d1 ?_|refine zI rfl la ?_|refine zA rfl ?_|refine aA ?_|refine aJ rfl ?_)
    refine⟨rfl,_,rfl,_,rfl,aH.tup2 (aH.of_closed lQ) ?_⟩
    rw[show decide (s.length≤100)=decide ((s.length:Int)≤100) from decide_eq_decide.2 (by omega)]
    exact aH.of_closed aL
theorem KB (s:aG) (hs:s.length < 1000000):aN Tryz.prog 136 [.str s] (.bool (cS s)):=by
 intro M
 refine aC aF Tryz.func136 rfl (by decide) (by simp[Tryz.f136]) ?_
 rw[←TG]
 have k:=U3 s hs
 repeat' (first|refine zA rfl ?_|refine aA ?_|refine aJ rfl ?_)
 refine eL rfl rfl rfl rfl rfl k ?_
 repeat' (first|refine zA rfl ?_|refine aA ?_|refine aJ rfl ?_)
 exact⟨rfl,_,rfl,rfl,rfl⟩
theorem X0 (m:Mt):decide (m=dA)=qT m:=by
 obtain⟨a,b,c⟩:=m
 unfold qT dA
 rw[Bool.eq_iff_iff]
 simp[and_assoc]
theorem a2n (c:Ch) (hs:fE c):aN Tryz.prog 81 [c.av] (.bool (gE c)):=by
 intro M
 refine aC aF Tryz.func81 rfl (by decide) (by simp[Tryz.f81]) ?_
 have k1:=KB c.path (by have:=hs.1;omega)
 have k2:=FC c.meta_ hs.2
 have k3:=(E1 c.meta_ dA hs.2 (by decide)).sub (args:=[c.meta_.av,.agg [.int .i64 0,.int .i64 0,.sl 0 [] .full]]) ⟨Sub.refl,Sub.aggL ⟨Sub.refl,Sub.refl,Sub.nil,trivial⟩,trivial⟩
 rw[X0] at k3
 unfold gE
 by_cases h1:c.path=[]
 ·have d1:(c.path==([]:aG))=true:=by simp[h1]
  rw[d1]
  repeat' (first|refine zB rfl d1 ?_|refine zA rfl ?_|refine aA ?_|refine aJ rfl ?_)
  exact⟨rfl,_,rfl,rfl,rfl⟩
 ·have d1:(c.path==([]:aG))=false:=by simp[h1]
  rw[d1]
  cases h2:cS c.path
  ·rw[h2] at k1
   repeat' (first|refine zB rfl d1 ?_|refine zA rfl ?_|refine aA ?_|refine aJ rfl ?_|refine aD rfl k1 ?_)
   exact⟨rfl,_,rfl,rfl,rfl⟩
  ·rw[h2] at k1
   cases h3:mV c.meta_
   ·rw[h3] at k2
    repeat' (first|refine zB rfl d1 ?_|refine zA rfl ?_|refine aA ?_|refine aJ rfl ?_|refine aD rfl k1 ?_|refine aD rfl k2 ?_)
    exact⟨rfl,_,rfl,rfl,rfl⟩
   ·rw[h3] at k2
    cases h4:c.gone
    ·have d4:(!c.gone)=true:=by simp[h4]
     repeat' (first|refine zB rfl (by first|exact d1|exact h4) ?_|refine zA rfl ?_|refine aA ?_|refine aJ rfl ?_|refine aD rfl k1 ?_|refine aD rfl k2 ?_)
     exact⟨rfl,_,rfl,rfl,rfl⟩
    ·have d4:(!c.gone)=false:=by simp[h4]
     repeat' (first|refine zB rfl (by first|exact d1|exact h4) ?_|refine zA rfl ?_|refine aA ?_|refine aJ rfl ?_|refine aD rfl k1 ?_|refine aD rfl k2 ?_|refine aD rfl k3 ?_)
     exact⟨rfl,_,rfl,rfl,rfl⟩
theorem qE (l:List Ch) (tg:eI) (hl:l.length < 1000000) (hs:∀c,c∈l→fE c):aN Tryz.prog 43 [gS l tg] (.bool (cL l)):=by
 intro M
 refine aC aF Tryz.func43 rfl (by decide) (by simp[Tryz.f43]) ?_
 have la:=aU Ch.av l
 unfold cL gS
 by_cases h1:1≤l.length
 ·by_cases h2:l.length≤20
  ·have d1:decide ((l.length:Int) < 1)=false:=by simp;omega
   have d2:decide ((20:Int) < (l.length:Int))=false:=by simp;omega
   rw[decide_eq_true h1,decide_eq_true h2]
   repeat' (first|refine zB rfl (by first|exact d1|exact d2) ?_|refine zI rfl la ?_|refine zA rfl ?_|refine aA ?_|refine aJ rfl ?_)
   refine aX l.length (fun i f N=>N=M∧((∀(j:Nat) a,j < i→l[j]? =some a→gE a=true)∧∀(j:Nat) a b,j+1 < i→l[j]? =some a→l[j+1]? =some b→bl a.path b.path=true)∧f=⟨[(0,.sl 5 (l.map Ch.av) tg),(3,.int .i64 (i:Int))],[]⟩) (Nat.zero_le _) ⟨rfl,⟨fun j a hj=>absurd hj (Nat.not_lt_zero _),fun j a b hj=>absurd hj (Nat.not_lt_zero _)⟩,rfl⟩ (aM.le ?_ (aI.le_refl _)) ?_
   ·skip
    repeat (refine AF.le_cons rfl ?_)
    exact AF.le_nil rfl
   rintro i f N hi ⟨rfl,⟨hm,hr⟩,rfl⟩
   by_cases g1:i < l.length
   ·have d3:decide ((i:Int) < (l.length:Int))=true:=by simp;omega
    have hy:l[i]? =some l[i]:=List.getElem?_eq_getElem g1
    have fi:=aQ (i:=i) (by omega)
    have hmem:=List.getElem_mem g1
    generalize l[i]=y at hy hmem
    have km:=a2n y (hs y hmem)
    cases g2:gE y
    ·rw[g2] at km
     have e:l.all gE=false:=by
      rw[List.all_eq_false]
      exact⟨y,hmem,by simp[g2]⟩
     rw[e]
     repeat' (first|refine zB rfl d3 ?_|refine zI rfl (by first|exact fi|exact la) ?_|refine zA rfl ?_|refine aA ?_|refine aJ rfl ?_|refine aD rfl km ?_|refine zX rfl (c7 hy) ?_|refine aO mixed [0,1,2,3,4,5,6,7,8,9,10,11,12,16,17,13,14,15,18,19,20,21,22,23] [.P,.P,.R,.R,.P,.P,.P,.P,.P,.P,.P,.P,.P,.R,.R,.R,.P,.P,.R,.R,.R,.P,.P,.P] rfl rfl (by kernel_rfl) ?_)
     exact⟨rfl,_,rfl,rfl,rfl⟩
    ·rw[g2] at km
     have hm':∀(j:Nat) a,j < i+1→l[j]? =some a→gE a=true:=by
      intro j a hj ha
      by_cases hji:j=i
      ·subst hji
       rw[hy] at ha
       cases ha
       exact g2
      ·exact hm j a (by omega) ha
     by_cases g0:i=0
     ·subst g0
      repeat' (first|refine zB rfl d3 ?_|refine zI rfl (by first|exact fi|exact la) ?_|refine zA rfl ?_|refine aA ?_|refine aJ rfl ?_|refine aD rfl km ?_|refine zX rfl (c7 hy) ?_|refine aO mixed [0,1,2,3,4,5,6,7,8,9,10,11,12,16,17,13,14,15,18,19,20,21,22,23] [.P,.P,.R,.R,.P,.P,.P,.P,.P,.P,.P,.P,.P,.R,.R,.R,.P,.P,.R,.R,.R,.P,.P,.P] rfl rfl (by kernel_rfl) ?_)
      refine⟨g1,_,_,⟨rfl,⟨hm',fun j a b hj=>absurd hj (by omega)⟩,rfl⟩,aM.le ?_ (aI.le_refl _)⟩
      skip
      repeat (refine AF.le_cons rfl ?_)
      exact AF.le_nil rfl
     ·obtain⟨k,rfl⟩:∃k,i=k+1:=⟨i - 1,by omega⟩
      have d0:decide ((0:Int) < ((k+1:Nat):Int))=true:=decide_eq_true (by omega)
      have w1:IntKind.wrap .i64 (((k+1:Nat):Int) - 1)=(k:Int):=(Go.Ab.wrap_small (by omega) (by omega)).trans (by omega)
      have hx:l[k]? =some l[k]:=List.getElem?_eq_getElem (by omega)
      generalize l[k]=x at hx
      cases g3:bl x.path y.path
      ·have d4:(!bl x.path y.path)=true:=by simp[g3]
       have e:decide (tW l)=false:=decide_eq_false fun h=>by rw[J4 h hx hy] at g3;cases g3
       rw[e]
       repeat' (first|refine zB rfl (by first|exact d3|exact d0|exact d4) ?_|refine zI rfl (by first|exact fi|exact la|exact w1) ?_|refine zA rfl ?_|refine aA ?_|refine aJ rfl ?_|refine aD rfl km ?_|refine zX rfl (c7 hx) ?_|refine zX rfl (c7 hy) ?_|refine aO mixed [0,1,2,3,4,5,6,7,8,9,10,11,12,16,17,13,14,15,18,19,20,21,22,23] [.P,.P,.R,.R,.P,.P,.P,.P,.P,.P,.P,.P,.P,.R,.R,.R,.P,.P,.R,.R,.R,.P,.P,.P] rfl rfl (by kernel_rfl) ?_)
       exact⟨rfl,_,rfl,by simp;rfl,rfl⟩
      ·have d4:(!bl x.path y.path)=false:=by simp[g3]
       repeat' (first|refine zB rfl (by first|exact d3|exact d0|exact d4) ?_|refine zI rfl (by first|exact fi|exact la|exact w1) ?_|refine zA rfl ?_|refine aA ?_|refine aJ rfl ?_|refine aD rfl km ?_|refine zX rfl (c7 hx) ?_|refine zX rfl (c7 hy) ?_|refine aO mixed [0,1,2,3,4,5,6,7,8,9,10,11,12,16,17,13,14,15,18,19,20,21,22,23] [.P,.P,.R,.R,.P,.P,.P,.P,.P,.P,.P,.P,.P,.R,.R,.R,.P,.P,.R,.R,.R,.P,.P,.P] rfl rfl (by kernel_rfl) ?_)
       refine⟨g1,_,_,⟨rfl,⟨hm',?_⟩,rfl⟩,aM.le ?_ (aI.le_refl _)⟩
       ·intro j a b hj ha hb
        by_cases hji:j=k
        ·subst hji
         rw[hx] at ha;rw[hy] at hb
         cases ha;cases hb
         exact g3
        ·exact hr j a b (by omega) ha hb
       ·skip
        repeat (refine AF.le_cons rfl ?_)
        exact AF.le_nil rfl
   ·have d3:decide ((i:Int) < (l.length:Int))=false:=by simp;omega
    obtain rfl:i=l.length:=by omega
    have e1:l.all gE=true:=List.all_eq_true.2 fun x hx=>by
     obtain⟨j,hj⟩:=List.mem_iff_getElem?.1 hx
     exact hm j x (List.getElem?_eq_some_iff.1 hj).1 hj
    have e2:decide (tW l)=true:=decide_eq_true (vX l fun j a b ha hb=>hr j a b (List.getElem?_eq_some_iff.1 hb).1 ha hb)
    rw[e1,e2]
    repeat' (first|refine zB rfl d3 ?_|refine zI rfl la ?_|refine zA rfl ?_|refine aA ?_|refine aJ rfl ?_)
    exact⟨rfl,_,rfl,rfl,rfl⟩
  ·have d1:decide ((l.length:Int) < 1)=false:=by simp;omega
   have d2:decide ((20:Int) < (l.length:Int))=true:=by simp;omega
   rw[decide_eq_false h2]
   repeat' (first|refine zB rfl (by first|exact d1|exact d2) ?_|refine zI rfl la ?_|refine zA rfl ?_|refine aA ?_|refine aJ rfl ?_)
   exact⟨rfl,_,rfl,by simp;rfl,rfl⟩
 ·have d1:decide ((l.length:Int) < 1)=true:=by simp;omega
  rw[decide_eq_false h1]
  repeat' (first|refine zB rfl d1 ?_|refine zI rfl la ?_|refine zA rfl ?_|refine aA ?_|refine aJ rfl ?_)
  exact⟨rfl,_,rfl,rfl,rfl⟩
end Go.Proofs.YthnhbmlefiafaaaGreatDoor
namespace Go.Ab
open Go.RowKit
theorem aM.freezeS {n0:Nat} {t:List (Nat×AV)} {ds:List bH} {M:aI} (i:Nat) {id n cap sz:Nat} {l xs:List AV} (h:AF.get ⟨t,ds⟩ i=.osl id 0 n cap sz) (hM:M.get id=some (.cells l)) (hx:l.take (n*sz)=b9 xs) (hn:xs.length=n) (hnl:n*sz≤l.length) (hnc:n≤cap) (hs:∀x,x∈xs→x.cells.length=sz):
  aM n0 ⟨t,ds⟩ M ⟨(i,.sl sz xs .none)::t,ds⟩ (M.drop id):=by
 intro μ0 μ F w0 w m a hnn he hg hr
 obtain⟨b,c,ty,o1,o2,o3,o4,o5⟩:=hg.obj id l hM
 have hid:id < M.next:=(hg.dom id).1 (by rw[o1];simp)
 obtain⟨μ2,k1,k2,k3,k4⟩:=oO hg hid
 have hv:=hr.tmps i
 rw[h] at hv
 obtain⟨b',hb',hv'⟩:=fD hg hM hv
 rw[o1] at hb'
 cases hb'
 refine⟨μ2,he.trans k3,k4 _ rfl (fun j=>aI.get_drop M id j),hr.size,?_,hr.defs.evo k3,fun p hp=>(hr.kept p hp).evo k3⟩
 intro j
 by_cases e:j=i
 ·subst e
  have:AF.get ⟨(j,.sl sz xs .none)::t,ds⟩ j=.sl sz xs .none:=by simp[AF.get,aK]
  rw[this,hv',←hn]
  have key:∀(p:Nat) (y:AV),(b9 xs)[p]? =some y→l[p]? =some y∧p < l.length:=by
   intro p y hp
   have hlt:=(List.getElem?_eq_some_iff.1 hp).1
   rw[cC hs,hn] at hlt
   rw[←hx,List.getElem?_take,if_pos hlt] at hp
   exact⟨hp,by omega⟩
  have hcell:∀p,p < l.length→c[p]? =some (c.getD p undef):=by
   intro p hp
   have:p < c.size:=by omega
   simp[Array.getD,this]
  refine s8 (b:=b) (o:=0) (vals:=fun p=>c.getD p undef) hs (by omega) (fun _=>rfl) ?_ trivial
  intro p y hp
  obtain⟨h2,h3⟩:=key p y hp
  refine⟨o4 p _ (hcell p h3),?_,⟨hg.frm b _ ⟨id,.inl o1⟩,?_⟩,(o5 p _ _ h2 (hcell p h3)).evo k3⟩
  ·rw[Nat.zero_add,cR o2]
   exact hcell p h3
  ·intro ho
   obtain⟨i',hi',h4|⟨e',g',h4,_⟩⟩:=k2 b _ ho
   ·exact hi' (hg.inj i' id b (.inl h4) (.inl o1))
   ·exact hi' (hg.inj i' id b (.inr ⟨e',g',h4⟩) (.inl o1))
 ·have:AF.get ⟨(i,.sl sz xs .none)::t,ds⟩ j=AF.get ⟨t,ds⟩ j:=by simp[AF.get,aK,e]
  rw[this]
  exact (hr.tmps j).evo k3
end Go.Ab
namespace Go.Proofs.YthnhbmlefiafaaaGreatDoor
open Go.Ab
theorem iX {l:List Ch} (h:cL l=true):1≤l.length∧l.length≤20∧(∀c,c∈l→gE c=true)∧tW l:=by
 unfold cL at h
 simp only[Bool.and_eq_true,decide_eq_true_eq,List.all_eq_true] at h
 exact⟨h.1.1.1,h.1.1.2,h.1.2,h.2⟩
theorem NC (n j:Nat):(dH n j).toNat=n/256^j%256:=by
 unfold dH
 rw[UInt8.toNat_ofNat']
 omega
theorem a0t {n:Nat} (h:n < 4294967296):o8 (tL n)=n:=by
 unfold o8 tL
 simp only[List.foldl_cons,List.foldl_nil,NC]
 have e0:n/256^0=n:=by simp
 have e1:n/256^1=n/256:=by simp
 have e2:n/256^2=n/65536:=rfl
 have e3:n/256^3=n/16777216:=rfl
 rw[e0,e1,e2,e3]
 omega
theorem JZ:∀l:aG,o8 (l.dropWhile (·==0))=o8 l
 |[]=>rfl
 |b::r=>by
  rw[List.dropWhile_cons]
  by_cases h:(b==0)=true
  ·rw[if_pos h,JZ r]
   have:b=0:=by simpa using h
   subst this
   rfl
  ·rw[if_neg h]
theorem a69 {n:Nat} (h:n < 4294967296):o8 (nb n)=n:=by
 unfold nb JS
 rw[JZ,show (tL n).take 4=tL n from rfl,a0t h]
theorem CF:∀l:aG,(l.dropWhile (·==0)).head?≠some 0
 |[]=>by simp
 |b::r=>by
  rw[List.dropWhile_cons]
  by_cases h:(b==0)=true
  ·rw[if_pos h]
   exact CF r
  ·rw[if_neg h]
   simp at h
   simp[h]
theorem nS {n:Nat} (h:n < 4294967296) (r:aG):bV (eU n++r)=some (n,r):=by
 have hl:(nb n).length≤4:=E6 n 4
 have hc:(UInt8.ofNat (nb n).length).toNat=(nb n).length:=by
  rw[UInt8.toNat_ofNat']
  omega
 unfold eU
 rw[List.cons_append,jJ]
 ·rw[hc,List.take_left,List.drop_left,a69 h]
 ·rw[hc,List.take_left]
  rintro (h1|h1|h1)
  ·omega
  ·rw[List.length_append] at h1
   omega
  ·exact CF _ h1
theorem HR:∀l:List Int,(∀x,x∈l→0≤x∧x≤4294967295)→iY (cX l)=some (l.map Int.toNat)
 |[],_=>mF
 |x::r,h=>by
  have hx:=h x (by simp)
  have e:cX (x::r)=eU x.toNat++cX r:=by simp[cX]
  rw[e,kL (nS (by omega) _),HR r (fun y hy=>h y (by simp[hy]))]
  rfl
theorem W4 {m:Mt} (h:mV m=true):fM (cX (g8 m))=(m,0):=by
 have hin:=NB h
 unfold fM
 rw[HR _ hin]
 have e:(g8 m).map Int.toNat=m.size.toNat::m.mode.toNat::m.ch.length::m.ch.map Int.toNat:=by
  unfold g8
  simp
 have e2:nI (m.ch.map Int.toNat)=m.ch:=by
  unfold nI
  rw[List.map_map]
  have:∀l:List Int,(∀x,x∈l→0≤x)→l.map ((fun n:Nat=>(n:Int))∘Int.toNat)=l:=by
   intro l
   induction l with
   |nil=>intro _;rfl
   |cons a r ih=>
    intro hl
    rw[List.map_cons,ih (fun x hx=>hl x (by simp[hx]))]
    have:=hl a (by simp)
    congr 1
    simp
    omega
  exact this _ (fun x hx=>(hin x (by unfold g8;simp[hx])).1)
 have hs:=hin m.size (by unfold g8;simp)
 have hm:=hin m.mode (by unfold g8;simp)
 have e3:(⟨(m.size.toNat:Int),(m.mode.toNat:Int),nI (m.ch.map Int.toNat)⟩:Mt)=m:=by
  rw[e2,Int.toNat_of_nonneg hs.1,Int.toNat_of_nonneg hm.1]
 rw[e,vN (by simp) (by rw[e3];exact h),e3]
theorem oU {m:Mt} (h:mV m=true):bW (cI m false).1=(m,false,0):=by
 have e:(cI m false).1=1::cX (g8 m):=by
  unfold cI tX
  rw[if_neg (by simp),if_pos h,if_pos rfl]
 rw[e]
 show (if (1:UInt8)=0∧cX (g8 m)=[] then (dA,true,(0:Int)) else if (1:UInt8)=1 then ((fM (cX (g8 m))).1,false,(fM (cX (g8 m))).2) else (dA,false,30))=_
 rw[if_neg (by simp),if_pos rfl,W4 h]
theorem zL (m:Mt):bW (cI m true).1=(dA,true,0):=by
 have e:(cI m true).1=[0]:=by
  unfold cI
  rw[if_pos rfl]
 rw[e]
 rfl
theorem KN {m:Mt} {g:Bool} (h:mV m=true):(bW (cI m g).1).2.1=g∧(bW (cI m g).1).2.2=0:=by
 cases g
 ·rw[oU h]
  exact⟨rfl,rfl⟩
 ·rw[zL]
  exact⟨rfl,rfl⟩
theorem U2 (m:Mt) (hl:m.ch.length < 1000000):aN Tryz.prog 124 [m.av] (kF (tX m)):=by
 refine aT (aY (iB m)) (bM _) ?_
 refine aC aF Tryz.func124 rfl (by decide) (by simp[Tryz.f124]) ?_
 have lc:=aU (fun n=>AV.int .i64 n) m.ch
 have k1:=FC m hl
 unfold tX
 cases h:mV m
 ·rw[h] at k1
  rw[if_neg (by simp)]
  repeat' (first|refine zA rfl ?_|refine aA ?_|refine aJ rfl ?_|refine aD rfl k1 ?_)
  exact⟨rfl,_,rfl,_,rfl,aH.of_closed (bM ([],1))⟩
 ·rw[h] at k1
  rw[if_pos rfl]
  have hin:=NB h
  have hlen:=xW h
  repeat' (first|refine zI rfl lc ?_|refine zA rfl ?_|refine aA ?_|refine aJ rfl ?_|refine aD rfl k1 ?_|refine zR rfl ?_|refine zQ rfl ?_)
  have hl3:((([AV.int .i64 m.size,AV.int .i64 m.mode,AV.int .i64 (m.ch.length:Int)]++m.ch.map fun n=>AV.int .i64 n).length:Nat):Int)=((g8 m).length:Int):=by simp[g8]
  refine aX (g8 m).length (fun i f N=>N=⟨1,[]⟩∧True∧f=⟨[(4,iA (g8 m) .none),(5,.str (cX ((g8 m).take i))),(6,.int .i64 (i:Int))],[]⟩) (Nat.zero_le _) ⟨rfl,trivial,rfl⟩ (aM.le ?_ (aI.le_nil rfl)) ?_
  ·have h22:∀t,Sub (.sl 1 ([AV.int .i64 m.size,AV.int .i64 m.mode,AV.int .i64 (m.ch.length:Int)]++m.ch.map fun n=>AV.int .i64 n) t) (iA (g8 m) .none):=by
    intro t
    unfold iA g8
    rw[List.map_append]
    exact Sub.untag
   repeat' (first|exact AF.le_nil rfl|refine AF.le_cons rfl ?_|refine AF.le_sub (h22 _) ?_)
  rintro i f N hi ⟨rfl,_,rfl⟩
  have lm:=aU (fun n=>AV.int .i64 n) (g8 m)
  by_cases h1:i < (g8 m).length
  ·have d1:decide ((i:Int) < ((g8 m).length:Int))=true:=by simp;omega
   have hx:(g8 m)[i]? =some (g8 m)[i]:=List.getElem?_eq_getElem h1
   have fi:=aQ (i:=i) (by omega)
   have ht:=b7 hx
   have hm:=hin _ (List.getElem_mem h1)
   generalize (g8 m)[i]=x at hx ht hm
   have kx:=jH (m:=x.toNat) (by omega)
   rw[show ((x.toNat:Nat):Int)=x by omega] at kx
   have lx:=fH x.toNat
   have lc2:=gI ((g8 m).take i)
   rw[List.length_take] at lc2
   have hcat:(cX ((g8 m).take i)).length+(eU x.toNat).length≤9223372036854775807∧cX ((g8 m).take i)++eU x.toNat=cX ((g8 m).take (i+1)):=⟨by omega,(qC ht).symm⟩
   unfold iA
   repeat' (first|refine zB rfl d1 ?_|refine zI rfl (by first|exact fi|exact lm) ?_|refine zA rfl ?_|refine aA ?_|refine aJ rfl ?_|refine aD rfl kx ?_|refine zX rfl (c7 hx) ?_|refine lW rfl (hcat) ?_)
   refine⟨h1,_,_,⟨rfl,trivial,rfl⟩,aM.le ?_ (aI.le_refl _)⟩
   repeat (refine AF.le_cons rfl ?_)
   exact AF.le_nil rfl
  ·have d1:decide ((i:Int) < ((g8 m).length:Int))=false:=by simp;omega
   obtain rfl:i=(g8 m).length:=by omega
   rw[List.take_length]
   repeat' (first|refine zB rfl d1 ?_|refine zI rfl lm ?_|refine zA rfl ?_|refine aA ?_|refine aJ rfl ?_)
   exact⟨rfl,_,rfl,_,rfl,aH.of_closed (bM (cX (g8 m),0))⟩
theorem DX (m:Mt) (no:Bool) (hl:m.ch.length < 1000000):aN Tryz.prog 71 [m.av,.bool no] (kF (cI m no)):=by
 refine aT (aZ (iB m) aL) (bM _) ?_
 refine aC aF Tryz.func71 rfl (by decide) (by simp[Tryz.f71]) ?_
 have k1:=U2 m hl
 unfold cI
 cases no
 ·unfold tX at k1 ⊢
  cases h:mV m
  ·rw[h,if_neg (by simp)] at k1
   rw[if_neg (by simp),if_neg (by simp)]
   repeat' (first|refine zA rfl ?_|refine aA ?_|refine aJ rfl ?_|refine aD rfl k1 ?_)
   exact⟨rfl,_,rfl,_,rfl,aH.of_closed (bM ([],1))⟩
  ·rw[h,if_pos rfl] at k1
   rw[if_neg (by simp),if_pos rfl]
   have lb:=gI (g8 m)
   have lm:=xW h
   have hcat:[1].length+(cX (g8 m)).length≤9223372036854775807∧[1]++cX (g8 m)=1::cX (g8 m):=⟨by simp;omega,rfl⟩
   repeat' (first|refine zA rfl ?_|refine aA ?_|refine aJ rfl ?_|refine aD rfl k1 ?_|refine lW rfl (hcat) ?_)
   exact⟨rfl,_,rfl,_,rfl,aH.of_closed (bM (1::cX (g8 m),0))⟩
 ·rw[if_pos rfl]
  repeat' (first|refine zA rfl ?_|refine aA ?_|refine aJ rfl ?_)
  exact⟨rfl,_,rfl,_,rfl,aH.of_closed (bM ([0],0))⟩
end Go.Proofs.YthnhbmlefiafaaaGreatDoor
