/- Parts of the proof, one behind the other. No further condition. -/
import Derived.Test.YteliblifgdofgaaGreatDoorK09
import Derived.Test.YteliblifgdofgaaGreatDoorK10
import Derived.Test.YteliblifgdofgaaGreatDoorK13
import Derived.Test.YteliblifgdofgaaGreatDoorK07
import Derived.Lib.Bytealg
import Derived.Test.YteliblifgdofgaaGreatDoorK11
import Derived.MapKept
import Derived.Maps.RangeRun
import Derived.Test.YteliblifgdofgaaGreatDoorK12
set_option linter.unusedVariables false
set_option linter.unusedSimpArgs false
set_option maxRecDepth 100000
set_option maxHeartbeats 8000000
namespace Go.Proofs.YteliblifgdofgaaGreatDoor
open Go.Ab
structure Ch where
 path:aD
 gone:Bool
 meta_:Mt
deriving DecidableEq
def Ch.cells (c:Ch):List AV:=[.str c.path,.bool c.gone,.int .i64 c.meta_.size,.int .i64 c.meta_.mode,iA c.meta_.ch .none]
def Ch.av (c:Ch):AV:=.agg c.cells
theorem AB (c:Ch):∀x,x∈c.cells→aN x:=by
 intro x hx
 simp[Ch.cells] at hx
 rcases hx with rfl|rfl|rfl|rfl|rfl
 ·exact aP
 ·exact aK
 ·exact aB
 ·exact aB
 ·exact gU _ (.inl rfl)
theorem RA (c:Ch):aN c.av:=bU (AB c)
theorem SI (l:List Ch):∀x,x∈l.map Ch.av→∀c,c∈x.cells→aN c:=by
 intro x hx
 obtain⟨p,_,rfl⟩:=List.mem_map.1 hx
 exact AB p
def mU (l:List Ch) (t:eE):AV:=.sl 5 (l.map Ch.av) t
theorem gQ (l:List Ch) {t:eE} (ht:t=.none∨t=.full):aN (mU l t):=bR ht (fun x hx=>by obtain⟨p,_,rfl⟩:=List.mem_map.1 hx;exact RA p) (SI l)
def wA (m:Mt):Bool:=decide (m.size=0)&&decide (m.mode=0)&&decide ((m.ch.length:Int)=0)
def iM (c:Ch):Bool:=!(c.path==[])&&bN c.path&&pT c.meta_&&(!c.gone||wA c.meta_)
abbrev A7 (l:List Ch):Prop:=l.Pairwise fun a b=>bl a.path b.path=true
def d8 (l:List Ch):Bool:=decide (1≤l.length)&&decide (l.length≤20)&&l.all iM&&decide (A7 l)
def gP (c:Ch):Prop:=c.path.length < 1000000∧c.meta_.ch.length < 1000000
theorem IW:∀a b:aD,decide (0≤Lib.compareBytes a b)=!bl a b
 |[],[]=>rfl
 |[],_::_=>rfl
 |_::_,[]=>rfl
 |a::x,b::y=>by
  unfold Lib.compareBytes Op.bytesLess
  by_cases h1:a < b
  ·simp[h1]
  ·by_cases h2:b < a
   ·have:a≠b:=fun e=>by subst e;exact absurd h2 (by simp)
    simp[h1,h2,this]
   ·have:a=b:=UInt8.le_antisymm (UInt8.not_lt.1 h2) (UInt8.not_lt.1 h1)
    subst this
    simp only[h1,if_false,BEq.rfl,Bool.true_and,decide_false,Bool.false_or]
    exact IW x y
theorem a17 (a b:aD):a75 Tryz.prog 290 [.str a,.str b] (.int .i64 (Lib.compareBytes a b)):=by
 intro μ F w vs hv
 obtain⟨hl,hr⟩:=hv
 match vs,hl with
 |⟨[x,y]⟩,_=>
  have h1:=hr 0 _ x rfl rfl
  have h2:=hr 1 _ y rfl rfl
  cases h1
  cases h2
  refine⟨_,?_,.int _ _⟩
  have:=run_callFunc_extern (P:=Tryz.prog) Tryz.func290 (by kernel_rfl) (by kernel_rfl) (by kernel_rfl) (e:=Extern.BytealgCompare.compare) (by kernel_rfl) #[.string ⟨a.toArray⟩,.string ⟨b.toArray⟩] w
  rw[Lib.run_compareString] at this
  simpa [Result.andThen] using this
theorem QO (a b:aD):aO Tryz.prog 239 [.str a,.str b] (.int .i64 (Lib.compareBytes a b)):=by
 intro M
 refine aC aF Tryz.func239 rfl (by decide) (by simp[Tryz.f239]) ?_
 repeat' (first|refine zA rfl ?_|refine aA ?_|refine aL rfl ?_)
 refine a7d rfl rfl rfl rfl rfl (a17 a b) ?_
 repeat' (first|refine zA rfl ?_|refine aA ?_|refine aL rfl ?_)
 exact⟨rfl,_,rfl,rfl,rfl⟩
theorem HC (a b:aD):aO Tryz.prog 187 [.str a,.str b] (.int .i64 (Lib.compareBytes a b)):=by
 intro M
 refine aC aF Tryz.func187 rfl (by decide) (by simp[Tryz.f187]) ?_
 have k:=QO a b
 repeat' (first|refine zA rfl ?_|refine aA ?_|refine aL rfl ?_|refine aH rfl k ?_)
 exact⟨rfl,_,rfl,rfl,rfl⟩
theorem a3t (a b:Ch):aO Tryz.prog 142 [a.av,b.av] (.int .i64 (Lib.compareBytes a.path b.path)):=by
 intro M
 refine aC aF Tryz.func142 rfl (by decide) (by simp[Tryz.f142]) ?_
 have k:=HC a.path b.path
 repeat' (first|refine zA rfl ?_|refine aA ?_|refine aL rfl ?_|refine aH rfl k ?_)
 exact⟨rfl,_,rfl,rfl,rfl⟩
theorem k9 (c:Ch):(decide (c.meta_.size=0)=false∧wA c.meta_=false)∨(decide (c.meta_.size=0)=true∧decide (c.meta_.mode=0)=false∧wA c.meta_=false)∨(decide (c.meta_.size=0)=true∧decide (c.meta_.mode=0)=true∧wA c.meta_=decide ((c.meta_.ch.length:Int)=0)):=by
 unfold wA
 cases decide (c.meta_.size=0)<;>cases decide (c.meta_.mode=0)<;>simp
theorem QJ (c:Ch):((!(c.path==[]))=false∧iM c=false)∨((!(c.path==[]))=true∧bN c.path=false∧iM c=false)∨((!(c.path==[]))=true∧bN c.path=true∧pT c.meta_=false∧iM c=false)∨
  ((!(c.path==[]))=true∧bN c.path=true∧pT c.meta_=true∧(!c.gone)=true∧iM c=true)∨((!(c.path==[]))=true∧bN c.path=true∧pT c.meta_=true∧(!c.gone)=false∧iM c=wA c.meta_):=by
 unfold iM
 cases (!(c.path==[]))<;>cases bN c.path<;>cases pT c.meta_<;>cases c.gone<;>simp
theorem a5z (c:Ch) (hs:gP c):aO Tryz.prog 186 [c.av] (.bool (iM c)):=by
 intro M
 refine aC aF Tryz.func186 rfl (by decide) (by simp[Tryz.f186]) ?_
 have k1:=gV c.path (by have:=hs.1;omega)
 have k2:=MK c.meta_ hs.2
 have lc:=bA (fun n=>AV.int .i64 n) c.meta_.ch
 rcases QJ c with ⟨d1,e⟩|⟨d1,d2,e⟩|⟨d1,d2,d3,e⟩|⟨d1,d2,d3,d5,e⟩|⟨d1,d2,d3,d5,e⟩
 ·rw[e]
  rcases k9 c with ⟨z1,_⟩|⟨z1,z2,_⟩|⟨z1,z2,_⟩
  ·repeat' (first|refine zB rfl (by first|exact d1|exact z1) ?_|refine zA rfl ?_|refine aA ?_|refine aL rfl ?_)
   exact⟨rfl,_,rfl,rfl,rfl⟩
  ·repeat' (first|refine zB rfl (by first|exact d1|exact z1|exact z2) ?_|refine zA rfl ?_|refine aA ?_|refine aL rfl ?_)
   exact⟨rfl,_,rfl,rfl,rfl⟩
  ·repeat' (first|refine zB rfl (by first|exact d1|exact z1|exact z2) ?_|refine zI rfl lc ?_|refine zA rfl ?_|refine aA ?_|refine aL rfl ?_)
   exact⟨rfl,_,rfl,rfl,rfl⟩
 ·rw[e]
  rw[d2] at k1
  rcases k9 c with ⟨z1,_⟩|⟨z1,z2,_⟩|⟨z1,z2,_⟩
  ·repeat' (first|refine zB rfl (by first|exact d1|exact z1) ?_|refine zA rfl ?_|refine aA ?_|refine aL rfl ?_|refine aH rfl k1 ?_)
   exact⟨rfl,_,rfl,rfl,rfl⟩
  ·repeat' (first|refine zB rfl (by first|exact d1|exact z1|exact z2) ?_|refine zA rfl ?_|refine aA ?_|refine aL rfl ?_|refine aH rfl k1 ?_)
   exact⟨rfl,_,rfl,rfl,rfl⟩
  ·repeat' (first|refine zB rfl (by first|exact d1|exact z1|exact z2) ?_|refine zI rfl lc ?_|refine zA rfl ?_|refine aA ?_|refine aL rfl ?_|refine aH rfl k1 ?_)
   exact⟨rfl,_,rfl,rfl,rfl⟩
 ·rw[e]
  rw[d2] at k1
  rw[d3] at k2
  rcases k9 c with ⟨z1,_⟩|⟨z1,z2,_⟩|⟨z1,z2,_⟩
  ·repeat' (first|refine zB rfl (by first|exact d1|exact z1) ?_|refine zA rfl ?_|refine aA ?_|refine aL rfl ?_|refine aH rfl k1 ?_|refine aH rfl k2 ?_)
   exact⟨rfl,_,rfl,rfl,rfl⟩
  ·repeat' (first|refine zB rfl (by first|exact d1|exact z1|exact z2) ?_|refine zA rfl ?_|refine aA ?_|refine aL rfl ?_|refine aH rfl k1 ?_|refine aH rfl k2 ?_)
   exact⟨rfl,_,rfl,rfl,rfl⟩
  ·repeat' (first|refine zB rfl (by first|exact d1|exact z1|exact z2) ?_|refine zI rfl lc ?_|refine zA rfl ?_|refine aA ?_|refine aL rfl ?_|refine aH rfl k1 ?_|refine aH rfl k2 ?_)
   exact⟨rfl,_,rfl,rfl,rfl⟩
 ·rw[e]
  rw[d2] at k1
  rw[d3] at k2
  rcases k9 c with ⟨z1,_⟩|⟨z1,z2,_⟩|⟨z1,z2,_⟩
  ·repeat' (first|refine zB rfl (by first|exact d1|exact z1|exact d5) ?_|refine zA rfl ?_|refine aA ?_|refine aL rfl ?_|refine aH rfl k1 ?_|refine aH rfl k2 ?_)
   exact⟨rfl,_,rfl,rfl,rfl⟩
  ·repeat' (first|refine zB rfl (by first|exact d1|exact z1|exact z2|exact d5) ?_|refine zA rfl ?_|refine aA ?_|refine aL rfl ?_|refine aH rfl k1 ?_|refine aH rfl k2 ?_)
   exact⟨rfl,_,rfl,rfl,rfl⟩
  ·repeat' (first|refine zB rfl (by first|exact d1|exact z1|exact z2|exact d5) ?_|refine zI rfl lc ?_|refine zA rfl ?_|refine aA ?_|refine aL rfl ?_|refine aH rfl k1 ?_|refine aH rfl k2 ?_)
   exact⟨rfl,_,rfl,rfl,rfl⟩
 ·rw[e]
  rw[d2] at k1
  rw[d3] at k2
  rcases k9 c with ⟨z1,h⟩|⟨z1,z2,h⟩|⟨z1,z2,h⟩
  ·rw[h]
   repeat' (first|refine zB rfl (by first|exact d1|exact z1|exact d5) ?_|refine zA rfl ?_|refine aA ?_|refine aL rfl ?_|refine aH rfl k1 ?_|refine aH rfl k2 ?_)
   exact⟨rfl,_,rfl,rfl,rfl⟩
  ·rw[h]
   repeat' (first|refine zB rfl (by first|exact d1|exact z1|exact z2|exact d5) ?_|refine zA rfl ?_|refine aA ?_|refine aL rfl ?_|refine aH rfl k1 ?_|refine aH rfl k2 ?_)
   exact⟨rfl,_,rfl,rfl,rfl⟩
  ·rw[h]
   repeat' (first|refine zB rfl (by first|exact d1|exact z1|exact z2|exact d5) ?_|refine zI rfl lc ?_|refine zA rfl ?_|refine aA ?_|refine aL rfl ?_|refine aH rfl k1 ?_|refine aH rfl k2 ?_)
   exact⟨rfl,_,rfl,rfl,rfl⟩
theorem a4g (c:Ch) (hs:gP c):aO Tryz.prog 185 [c.av] (.bool (!iM c)):=by
 intro M
 refine aC aF Tryz.func185 rfl (by decide) (by simp[Tryz.f185]) ?_
 have k:=a5z c hs
 repeat' (first|refine zA rfl ?_|refine aA ?_|refine aL rfl ?_|refine aH rfl k ?_)
 exact⟨rfl,_,rfl,rfl,rfl⟩
theorem SD (l:List Ch) (tg:eE) (hl:l.length < 1000000) (g:FuncId) (fi ca:List AV) (p:Ch→Bool) (hp:∀x,x∈l→aO Tryz.prog g (fi++[x.av]++ca) (.bool (p x))):aO Tryz.prog 238 [.sl 5 (l.map Ch.av) tg,.fn (.func g) fi ca] (.int .i64 (r7 l p)):=by
 intro M
 refine aC aF Tryz.func238 rfl (by decide) (by simp[Tryz.f238]) ?_
 have la:((l.map Ch.av).length:Int)=(l.length:Int):=by simp
 repeat' (first|refine zI rfl la ?_|refine zA rfl ?_|refine aA ?_|refine aL rfl ?_)
 refine bC l.length (fun i f N=>N=M∧(∀(j:Nat) y,j < i→l[j]? =some y→p y=false)∧f=⟨[(0,.sl 5 (l.map Ch.av) tg),(1,.fn (.func g) fi ca),(7,.int .i64 (l.length:Int)),(8,.int .i64 (i:Int))],[]⟩) (Nat.zero_le _) ⟨rfl,fun j y hj=>absurd hj (Nat.not_lt_zero _),rfl⟩ (aR.le ?_ (aG.le_refl _)) ?_
 ·skip
  repeat (refine AF.le_cons rfl ?_)
  exact AF.le_nil rfl
 ·rintro i f N hi ⟨rfl,hno,rfl⟩
  by_cases h1:i < l.length
  ·have d1:decide ((i:Int) < (l.length:Int))=true:=by simp;omega
   have hx:l[i]? =some l[i]:=List.getElem?_eq_getElem h1
   have fi:=aZ (i:=i) (by omega)
   have hk:=hp l[i] (List.getElem_mem h1)
   generalize l[i]=x at hx hk
   cases hpx:p x
   ·rw[hpx] at hk
    repeat' (first|refine zB rfl d1 ?_|refine zA rfl ?_|refine aA ?_|refine aL rfl ?_)
    refine zX rfl (fB hx) ?_
    repeat' (first|refine zI rfl fi ?_|refine zA rfl ?_|refine aA ?_|refine aL rfl ?_|refine aH rfl hk ?_)
    refine⟨h1,_,_,⟨rfl,?_,rfl⟩,aR.le ?_ (aG.le_refl _)⟩
    ·intro j y hj hy
     by_cases hji:j=i
     ·subst hji
      rw[hx] at hy
      cases hy
      exact hpx
     ·exact hno j y (by omega) hy
    ·skip
     repeat (refine AF.le_cons rfl ?_)
     exact AF.le_nil rfl
   ·rw[hpx] at hk
    repeat' (first|refine zB rfl d1 ?_|refine zA rfl ?_|refine aA ?_|refine aL rfl ?_)
    refine zX rfl (fB hx) ?_
    repeat' (first|refine zA rfl ?_|refine aA ?_|refine aL rfl ?_|refine aH rfl hk ?_)
    exact⟨rfl,_,rfl,by rw[rO hno hx hpx];rfl,rfl⟩
  ·have d1:decide ((i:Int) < (l.length:Int))=false:=by simp;omega
   obtain rfl:i=l.length:=by omega
   repeat' (first|refine zB rfl d1 ?_|refine zA rfl ?_|refine aA ?_|refine aL rfl ?_)
   exact⟨rfl,_,rfl,by rw[lQ (fun j y hy=>hno j y (List.getElem?_eq_some_iff.1 hy).1 hy)];rfl,rfl⟩
theorem a3x {α:Type} (l:List α) (p:α→Bool):decide (0≤r7 l p)=l.any p:=by
 cases h:l.any p
 ·rw[List.any_eq_false] at h
  rw[lQ (fun j x hx=>by have:=h x (List.mem_of_getElem? hx);simpa using this)]
  rfl
 ·rw[List.any_eq_true] at h
  obtain⟨x,hx,hp⟩:=h
  unfold r7
  rw[if_pos (List.findIdx_lt_length_of_exists ⟨x,hx,hp⟩)]
  exact decide_eq_true (Int.natCast_nonneg _)
theorem W5 (l:List Ch) (tg:eE) (hl:l.length < 1000000) (hs:∀c,c∈l→gP c):aO Tryz.prog 184 [mU l tg,.fn (.func 185) [] []] (.bool (l.any fun c=>!iM c)):=by
 intro M
 refine aC aF Tryz.func184 rfl (by decide) (by simp[Tryz.f184]) ?_
 have k:=SD l tg hl 185 [] [] (fun c=>!iM c) (fun x hx=>a4g x (hs x hx))
 have e:=a3x l (fun c=>!iM c)
 unfold mU
 repeat' (first|refine zB rfl e ?_|refine zA rfl ?_|refine aA ?_|refine aL rfl ?_|refine aH rfl k ?_)
 exact⟨rfl,_,rfl,rfl,rfl⟩
theorem a8b (l:List Ch) (tg:eE) (hl:l.length < 1000000) (hs:∀c,c∈l→gP c):aO Tryz.prog 140 [mU l tg] (.bool (l.any fun c=>!iM c)):=by
 intro M
 refine aC aF Tryz.func140 rfl (by decide) (by simp[Tryz.f140]) ?_
 have k:=W5 l tg hl hs
 unfold mU at k ⊢
 repeat' (first|refine zA rfl ?_|refine aA ?_|refine aL rfl ?_|refine aH rfl k ?_)
 exact⟨rfl,_,rfl,rfl,rfl⟩
theorem CX:∀l:List Ch,(∀(j:Nat) a b,l[j]? =some a→l[j+1]? =some b→bl a.path b.path=true)→A7 l
 |[],_=>List.Pairwise.nil
 |[a],_=>List.pairwise_cons.2 ⟨by simp,List.Pairwise.nil⟩
 |a::b::r,h=>by
  have ih:=CX (b::r) (fun j x y hx hy=>h (j+1) x y hx hy)
  have h0:=h 0 a b rfl rfl
  refine List.pairwise_cons.2 ⟨fun x hx=>?_,ih⟩
  rcases List.mem_cons.1 hx with rfl|hx
  ·exact h0
  ·exact nA h0 ((List.pairwise_cons.1 ih).1 x hx)
theorem UO {l:List Ch} (h:A7 l) {i:Nat} {a b:Ch} (ha:l[i]? =some a) (hb:l[i+1]? =some b):bl a.path b.path=true:=by
 obtain⟨h1,rfl⟩:=List.getElem?_eq_some_iff.1 ha
 obtain⟨h2,rfl⟩:=List.getElem?_eq_some_iff.1 hb
 exact List.pairwise_iff_getElem.1 h i (i+1) h1 h2 (Nat.lt_succ_self i)
theorem a1j (l:List Ch) (tg:eE) (hl:l.length < 1000000) (h1:1≤l.length):aO Tryz.prog 141 [mU l tg,.fn (.func 142) [] []] (.bool (decide (A7 l))):=by
 intro M
 refine aC aF Tryz.func141 rfl (by decide) (by simp[Tryz.f141]) ?_
 have la:=bA Ch.av l
 unfold mU
 repeat' (first|refine zA rfl ?_|refine aA ?_|refine aL rfl ?_)
 refine bC l.length (fun i f N=>N=M∧(1≤i∧∀(j:Nat) a b,j+1 < i→l[j]? =some a→l[j+1]? =some b→bl a.path b.path=true)∧f=⟨[(0,.sl 5 (l.map Ch.av) tg),(1,.fn (.func 142) [] []),(5,.int .i64 (i:Int))],[]⟩) (i0:=1) h1 ⟨rfl,⟨Nat.le_refl _,fun j a b hj=>absurd hj (by omega)⟩,rfl⟩ (aR.le ?_ (aG.le_refl _)) ?_
 ·skip
  repeat (refine AF.le_cons rfl ?_)
  exact AF.le_nil rfl
 rintro i f N hi ⟨rfl,⟨hi1,hinv⟩,rfl⟩
 by_cases h2:i < l.length
 ·have d1:decide ((i:Int) < (l.length:Int))=true:=by simp;omega
  obtain⟨j,rfl⟩:∃j,i=j+1:=⟨i - 1,by omega⟩
  have hx:l[j]? =some l[j]:=List.getElem?_eq_getElem (by omega)
  have hy:l[j+1]? =some l[j+1]:=List.getElem?_eq_getElem h2
  have fi:=aZ (i:=j+1) (by omega)
  have fj:IntKind.wrap .i64 (((j+1:Nat):Int) - 1)=(j:Int):=(Go.Ab.wrap_small (by omega) (by omega)).trans (by omega)
  generalize l[j]=x at hx
  generalize l[j+1]=y at hy
  have k:=a3t x y
  have e:=IW x.path y.path
  cases hb:bl x.path y.path
  ·rw[hb] at e
   rw[decide_eq_false (fun h=>by have:=UO h hx hy;rw[hb] at this;cases this)]
   repeat' (first|refine zB rfl (by first|exact d1|exact e) ?_|refine zI rfl (by first|exact la|exact fj) ?_|refine zA rfl ?_|refine aA ?_|refine aL rfl ?_|refine aH rfl k ?_|refine zX rfl (fB hx) ?_|refine zX rfl (fB hy) ?_|refine aW mixed [0,1,2,3,6,7,4,5,8,9,10,11] [.P,.P,.P,.P,.R,.R,.P,.P,.R,.R,.P,.P] rfl rfl (by kernel_rfl) ?_)
   exact⟨rfl,_,rfl,rfl,rfl⟩
  ·rw[hb] at e
   repeat' (first|refine zB rfl (by first|exact d1|exact e) ?_|refine zI rfl (by first|exact la|exact fi|exact fj) ?_|refine zA rfl ?_|refine aA ?_|refine aL rfl ?_|refine aH rfl k ?_|refine zX rfl (fB hx) ?_|refine zX rfl (fB hy) ?_|refine aW mixed [0,1,2,3,6,7,4,5,8,9,10,11] [.P,.P,.P,.P,.R,.R,.P,.P,.R,.R,.P,.P] rfl rfl (by kernel_rfl) ?_)
   refine⟨h2,_,_,⟨rfl,⟨by omega,?_⟩,rfl⟩,aR.le ?_ (aG.le_refl _)⟩
   ·intro q a b hq ha hb2
    by_cases hqj:q=j
    ·subst hqj
     rw[hx] at ha
     rw[hy] at hb2
     cases ha
     cases hb2
     exact hb
    ·exact hinv q a b (by omega) ha hb2
   ·skip
    repeat (refine AF.le_cons rfl ?_)
    exact AF.le_nil rfl
 ·have d1:decide ((i:Int) < (l.length:Int))=false:=by simp;omega
  obtain rfl:i=l.length:=by omega
  rw[decide_eq_true (CX l fun j a b ha hb=>hinv j a b (List.getElem?_eq_some_iff.1 hb).1 ha hb)]
  repeat' (first|refine zB rfl d1 ?_|refine zI rfl la ?_|refine zA rfl ?_|refine aA ?_|refine aL rfl ?_)
  exact⟨rfl,_,rfl,rfl,rfl⟩
theorem yB (l:List Ch) (tg:eE) (hl:l.length < 1000000) (hs:∀c,c∈l→gP c):aO Tryz.prog 94 [mU l tg] (.bool (d8 l)):=by
 intro M
 refine aC aF Tryz.func94 rfl (by decide) (by simp[Tryz.f94]) ?_
 have la:=bA Ch.av l
 have ko:=a8b l tg hl hs
 have e:(l.any fun c=>!iM c)=!l.all iM:=by
  rw[List.any_eq_not_all_not]
  simp
 rw[e] at ko
 unfold d8
 by_cases h1:1≤l.length
 ·have d1:decide ((1:Int)≤(l.length:Int))=true:=by simp;omega
  have kr:=a1j l tg hl h1
  rw[decide_eq_true h1]
  by_cases h2:l.length≤20
  ·have d2:decide ((l.length:Int)≤20)=true:=by simp;omega
   rw[decide_eq_true h2]
   cases h3:l.all iM
   ·rw[h3] at ko
    unfold mU at*
    repeat' (first|refine zB rfl (by first|exact d1|exact d2) ?_|refine zI rfl la ?_|refine zA rfl ?_|refine aA ?_|refine aL rfl ?_|refine aH rfl ko ?_)
    exact⟨rfl,_,rfl,rfl,rfl⟩
   ·rw[h3] at ko
    unfold mU at*
    repeat' (first|refine zB rfl (by first|exact d1|exact d2) ?_|refine zI rfl la ?_|refine zA rfl ?_|refine aA ?_|refine aL rfl ?_|refine aH rfl ko ?_|refine aH rfl kr ?_)
    exact⟨rfl,_,rfl,rfl,rfl⟩
  ·have d2:decide ((l.length:Int)≤20)=false:=by simp;omega
   rw[decide_eq_false h2]
   unfold mU at*
   repeat' (first|refine zB rfl (by first|exact d1|exact d2) ?_|refine zI rfl la ?_|refine zA rfl ?_|refine aA ?_|refine aL rfl ?_)
   exact⟨rfl,_,rfl,rfl,rfl⟩
 ·have d1:decide ((1:Int)≤(l.length:Int))=false:=by simp;omega
  rw[decide_eq_false h1]
  unfold mU at*
  repeat' (first|refine zB rfl d1 ?_|refine zI rfl la ?_|refine zA rfl ?_|refine aA ?_|refine aL rfl ?_)
  exact⟨rfl,_,rfl,rfl,rfl⟩
theorem BK {c:Ch} (h:iM c=true):(cL c.meta_ c.gone).2=0:=by
 unfold iM at h
 simp at h
 unfold cL yP
 rw[if_pos h.1.2]
 split<;>rfl
theorem sJ (c:UInt8):∀s:aD,(∀b,b∈s→b≠c)→c6 c s=[s]
 |[],_=>rfl
 |b::l,h=>by
  unfold c6
  rw[if_neg (h b (by simp)),sJ c l (fun x hx=>h x (by simp[hx]))]
theorem vH (c:UInt8) (r:aD):∀s:aD,(∀b,b∈s→b≠c)→c6 c (s++c::r)=s::c6 c r
 |[],_=>by
  show c6 c (c::r)=_
  rw[c6,if_pos rfl]
 |b::l,h=>by
  show c6 c (b::(l++c::r))=_
  rw[c6,if_neg (h b (by simp)),vH c r l (fun x hx=>h x (by simp[hx]))]
structure AC (s:aD) (out:List aD) (frm i:Nat):Prop where
 le:frm≤i
 len:out.length≤frm
 no:∀b,b∈(s.take i).drop frm→b≠47
 eq:c6 47 s=out++c6 47 (s.drop frm)
theorem KK {s:aD} {frm i:Nat} {b:UInt8} (h:frm≤i) (hb:s[i]? =some b):s.drop frm=(s.take i).drop frm++b::s.drop (i+1):=by
 have hi:=(List.getElem?_eq_some_iff.1 hb).1
 have h1:s=s.take i++b::s.drop (i+1):=by
  have:=List.take_append_drop i s
  rw[List.drop_eq_getElem_cons hi,(List.getElem?_eq_some_iff.1 hb).2] at this
  exact this.symm
 calc s.drop frm=(s.take i++b::s.drop (i+1)).drop frm:=by rw[←h1]
  _=(s.take i).drop frm++b::s.drop (i+1):=by
   rw[List.drop_append_of_le_length (by simp;omega)]
theorem AC.hit {s:aD} {out:List aD} {frm i:Nat} (h:AC s out frm i) (hb:s[i]? =some 47):AC s (out++[(s.take i).drop frm]) (i+1) (i+1):=by
 refine⟨Nat.le_refl _,by have:=h.len;have:=h.le;simp;omega,?_,?_⟩
 ·intro b hm
  have:((s.take (i+1)).drop (i+1))=[]:=by simp
  rw[this] at hm
  simp at hm
 ·rw[h.eq,KK h.le hb,vH 47 _ _ h.no]
  simp
theorem AC.done {s:aD} {out:List aD} {frm:Nat} (h:AC s out frm s.length):out++[s.drop frm]=c6 47 s:=by
 rw[h.eq,sJ]
 intro b hb
 have:=h.no b
 rw[List.take_length] at this
 exact this hb
end Go.Proofs.YteliblifgdofgaaGreatDoor
namespace Go.Ab
open Go.RowKit
theorem aR.freezeS {n0:Nat} {t:List (Nat×AV)} {ds:List bJ} {M:aG} (i:Nat) {id n cap sz:Nat} {l xs:List AV} (h:AF.get ⟨t,ds⟩ i=.osl id 0 n cap sz) (hM:M.get id=some (.cells l)) (hx:l.take (n*sz)=b8 xs) (hn:xs.length=n) (hnl:n*sz≤l.length) (hnc:n≤cap) (hs:∀x,x∈xs→x.cells.length=sz):
  aR n0 ⟨t,ds⟩ M ⟨(i,.sl sz xs .none)::t,ds⟩ (M.drop id):=by
 intro μ0 μ F w0 w m a hnn he hg hr
 obtain⟨b,c,ty,o1,o2,o3,o4,o5⟩:=hg.obj id l hM
 have hid:id < M.next:=(hg.dom id).1 (by rw[o1];simp)
 obtain⟨μ2,k1,k2,k3,k4⟩:=lM hg hid
 have hv:=hr.tmps i
 rw[h] at hv
 obtain⟨b',hb',hv'⟩:=eK hg hM hv
 rw[o1] at hb'
 cases hb'
 refine⟨μ2,he.trans k3,k4 _ rfl (fun j=>aG.get_drop M id j),hr.size,?_,hr.defs.evo k3,fun p hp=>(hr.kept p hp).evo k3⟩
 intro j
 by_cases e:j=i
 ·subst e
  have:AF.get ⟨(j,.sl sz xs .none)::t,ds⟩ j=.sl sz xs .none:=by simp[AF.get,aJ]
  rw[this,hv',←hn]
  have key:∀(p:Nat) (y:AV),(b8 xs)[p]? =some y→l[p]? =some y∧p < l.length:=by
   intro p y hp
   have hlt:=(List.getElem?_eq_some_iff.1 hp).1
   rw[bZ hs,hn] at hlt
   rw[←hx,List.getElem?_take,if_pos hlt] at hp
   exact⟨hp,by omega⟩
  have hcell:∀p,p < l.length→c[p]? =some (c.getD p undef):=by
   intro p hp
   have:p < c.size:=by omega
   simp[Array.getD,this]
  refine r4 (b:=b) (o:=0) (vals:=fun p=>c.getD p undef) hs (by omega) (fun _=>rfl) ?_ trivial
  intro p y hp
  obtain⟨h2,h3⟩:=key p y hp
  refine⟨o4 p _ (hcell p h3),?_,⟨hg.frm b _ ⟨id,.inl o1⟩,?_⟩,(o5 p _ _ h2 (hcell p h3)).evo k3⟩
  ·rw[Nat.zero_add,cF o2]
   exact hcell p h3
  ·intro ho
   obtain⟨i',hi',h4|⟨e',g',h4,_⟩⟩:=k2 b _ ho
   ·exact hi' (hg.inj i' id b (.inl h4) (.inl o1))
   ·exact hi' (hg.inj i' id b (.inr ⟨e',g',h4⟩) (.inl o1))
 ·have:AF.get ⟨(i,.sl sz xs .none)::t,ds⟩ j=AF.get ⟨t,ds⟩ j:=by simp[AF.get,aJ,e]
  rw[this]
  exact (hr.tmps j).evo k3
end Go.Ab
namespace Go.Ab
open Go.RowKit
def a59 (n:Nat):List (List UInt8×Value)→List MapEntry
 |[]=>[]
 |(k,v)::r=>{key:=.string ⟨k.toArray⟩,val:=v,born:=n}::a59 (n+1) r
def a4z (n:Nat):List AV→List (Nat×AV)
 |[]=>[]
 |x::r=>(n,x)::a4z (n+1) r
def a7z (ps:List (List UInt8×Value)) (l:List (List UInt8×AV)):c7:=.raw none (.map (a59 0 ps).toArray ps.length) (ps.map (·.2)).toArray (a4z 0 (l.map (·.2)))
theorem IT {P:Program} {mt:TypeId} {ty:TypeId} {ρ:Operand→AV} {M:aG}:F9 P (.makeMap mt none) ty ρ M (.map M.next) (M.push (a7z [] [])):=by
 intro μ F w ρc o hg ho ht hr
 have hb:=fL w (.map #[] 0)
 have hnew:({w with heap:=w.heap.push (.map #[] 0)}:World).heap[w.heap.size]? =some (.map #[] 0):=by simp
 obtain⟨he,hG⟩:=jC hg hb (vs:=#[]) (t:=[]) (Nat.le_refl _) hnew (fun i=>.top _)
 refine⟨_,_,.map (some w.heap.size),_,?_,.inl rfl,he,hG,?_⟩
 ·simp[execOp,ho,Instr.makeMap,Result.andThen]
 ·exact .map _ _ rfl (by simp[Mu.put]) (fun b hb=>by simp[Mu.put] at hb;subst hb;rfl)
theorem EL {P:Program} {mt kt et:TypeId} (hmt:P.underlying mt=some (.map kt et)) {ty:TypeId} {y:Operand} {ik:IntKind} {n:Int} {ρ:Operand→AV} (hy:ρ y=.int ik n) {M:aG}:F9 P (.makeMap mt (some y)) ty ρ M (.map M.next) (M.push (a7z [] [])):=by
 intro μ F w ρc o hg ho ht hr
 have hb:=fL w (.map #[] 0)
 have hnew:({w with heap:=w.heap.push (.map #[] 0)}:World).heap[w.heap.size]? =some (.map #[] 0):=by simp
 obtain⟨he,hG⟩:=jC hg hb (vs:=#[]) (t:=[]) (Nat.le_refl _) hnew (fun i=>.top _)
 have h1:=hr y (by simp[Op.operands])
 rw[hy] at h1
 have h2:ρc y=.int ik n:=by
  generalize ρc y=v at h1
  cases h1
  rfl
 refine⟨_,_,.map (some w.heap.size),_,?_,.inl rfl,he,hG,?_⟩
 ·simp[execOp,ho,Instr.makeMap,Result.andThen,h2,run_underlying hmt,asInt,asIntOf]
 ·exact .map _ _ rfl (by simp[Mu.put]) (fun b hb=>by simp[Mu.put] at hb;subst hb;rfl)
section
variable {P:Program} {ops:Array Oper} {cls:Nat→fQ} {Q:AX→AF→aG→Prop} {ds:List bJ} {ls:List Nat} {i:Nat} {t:List (Nat×AV)} {M:aG}
def IN (ops:Array Oper) (cls:Nat→fQ) (ds:List bJ) (i:Nat) (t:List (Nat×AV)):Option (Nat×TypeId):=
 match ops[i]? with
 |some o=>
  match aT ops ⟨t,ds⟩ o,o.dst,n7 (cls i),o.op with
  |some true,some d,true,.makeMap mt none=>some (d,mt)
  |some true,some d,true,.makeMap mt (some y)=>(match AF.ev ⟨t,ds⟩ y with
   |.int _ _=>some (d,mt)
   |_=>none)
  |_,_,_,_=>none
 |none=>none
theorem TB {d:Nat} {mt kt et:TypeId} (hs:IN ops cls ds i t=some (d,mt)) (hmt:P.underlying mt=some (.map kt et)) (h:DW P ops cls Q ds ls ((d,.map M.next)::t) (M.push (a7z [] []))):DW P ops cls Q ds (i::ls) t M:=by
 unfold IN at hs
 split at hs
 ·rename_i o hi
  split at hs
  ·rename_i d' mt' hw hd hc ho
   cases hs
   exact lE hi hw hd hc (by rw[ho];exact IT) h
  ·rename_i d' mt' y hw hd hc ho
   split at hs
   ·rename_i ik n hy
    cases hs
    exact lE hi hw hd hc (by rw[ho];exact EL hmt hy) h
   ·cases hs
  ·cases hs
 ·cases hs
end
end Go.Ab
namespace Go.Proofs.YteliblifgdofgaaGreatDoor
open Go.Ab
theorem kG {l:List Ch} (h:d8 l=true):1≤l.length∧l.length≤20∧(∀c,c∈l→iM c=true)∧A7 l:=by
 unfold d8 at h
 simp only[Bool.and_eq_true,decide_eq_true_eq,List.all_eq_true] at h
 exact⟨h.1.1.1,h.1.1.2,h.1.2,h.2⟩
theorem ME (n j:Nat):(gI n j).toNat=n/256^j%256:=by
 unfold gI
 rw[UInt8.toNat_ofNat']
 omega
theorem a1f {n:Nat} (h:n < 4294967296):rL (KB n)=n:=by
 unfold rL KB
 simp only[List.foldl_cons,List.foldl_nil,ME]
 have e0:n/256^0=n:=by simp
 have e1:n/256^1=n/256:=by simp
 have e2:n/256^2=n/65536:=rfl
 have e3:n/256^3=n/16777216:=rfl
 rw[e0,e1,e2,e3]
 omega
theorem JS:∀l:aD,rL (l.dropWhile (·==0))=rL l
 |[]=>rfl
 |b::r=>by
  rw[List.dropWhile_cons]
  by_cases h:(b==0)=true
  ·rw[if_pos h,JS r]
   have:b=0:=by simpa using h
   subst this
   rfl
  ·rw[if_neg h]
theorem a7c {n:Nat} (h:n < 4294967296):rL (nb n)=n:=by
 unfold nb HJ
 rw[JS,show (KB n).take 4=KB n from rfl,a1f h]
theorem CH:∀l:aD,(l.dropWhile (·==0)).head?≠some 0
 |[]=>by simp
 |b::r=>by
  rw[List.dropWhile_cons]
  by_cases h:(b==0)=true
  ·rw[if_pos h]
   exact CH r
  ·rw[if_neg h]
   simp at h
   simp[h]
theorem m8 {n:Nat} (h:n < 4294967296) (r:aD):c5 (gN n++r)=some (n,r):=by
 have hl:(nb n).length≤4:=FS n 4
 have hc:(UInt8.ofNat (nb n).length).toNat=(nb n).length:=by
  rw[UInt8.toNat_ofNat']
  omega
 unfold gN
 rw[List.cons_append,l6]
 ·rw[hc,List.take_left,List.drop_left,a7c h]
 ·rw[hc,List.take_left]
  rintro (h1|h1|h1)
  ·omega
  ·rw[List.length_append] at h1
   omega
  ·exact CH _ h1
theorem I1:∀l:List Int,(∀x,x∈l→0≤x∧x≤4294967295)→lP (eR l)=some (l.map Int.toNat)
 |[],_=>tE
 |x::r,h=>by
  have hx:=h x (by simp)
  have e:eR (x::r)=gN x.toNat++eR r:=by simp[eR]
  rw[e,oZ (m8 (by omega) _),I1 r (fun y hy=>h y (by simp[hy]))]
  rfl
theorem VA {m:Mt} (h:pT m=true):fS (eR (jI m))=(m,0):=by
 have hin:=UZ h
 unfold fS
 rw[I1 _ hin]
 have e:(jI m).map Int.toNat=m.size.toNat::m.mode.toNat::m.ch.length::m.ch.map Int.toNat:=by
  unfold jI
  simp
 have e2:nI (m.ch.map Int.toNat)=m.ch:=by
  unfold nI
  rw[List.map_map]
  have:∀l:List Int,(∀x,x∈l→0≤x)→l.map ((fun n:Nat=>(n:Int))∘Int.toNat)=l:=by
   intro l
   induction l with
   |nil=>intro _;rfl
   |cons a r ih=>
    intro hl
    rw[List.map_cons,ih (fun x hx=>hl x (by simp[hx]))]
    have:=hl a (by simp)
    congr 1
    simp
    omega
  exact this _ (fun x hx=>(hin x (by unfold jI;simp[hx])).1)
 have hs:=hin m.size (by unfold jI;simp)
 have hm:=hin m.mode (by unfold jI;simp)
 have e3:(⟨(m.size.toNat:Int),(m.mode.toNat:Int),nI (m.ch.map Int.toNat)⟩:Mt)=m:=by
  rw[e2,Int.toNat_of_nonneg hs.1,Int.toNat_of_nonneg hm.1]
 rw[e,BH (by simp) (by rw[e3];exact h),e3]
theorem oD {m:Mt} (h:pT m=true):bY (cL m false).1=(m,false,0):=by
 have e:(cL m false).1=1::eR (jI m):=by
  unfold cL yP
  rw[if_neg (by simp),if_pos h,if_pos rfl]
 rw[e]
 show (if (1:UInt8)=0∧eR (jI m)=[] then (cC,true,(0:Int)) else if (1:UInt8)=1 then ((fS (eR (jI m))).1,false,(fS (eR (jI m))).2) else (cC,false,30))=_
 rw[if_neg (by simp),if_pos rfl,VA h]
theorem xA (m:Mt):bY (cL m true).1=(cC,true,0):=by
 have e:(cL m true).1=[0]:=by
  unfold cL
  rw[if_pos rfl]
 rw[e]
 rfl
theorem GC {m:Mt} {g:Bool} (h:pT m=true):(bY (cL m g).1).2.1=g∧(bY (cL m g).1).2.2=0:=by
 cases g
 ·rw[oD h]
  exact⟨rfl,rfl⟩
 ·rw[xA]
  exact⟨rfl,rfl⟩
def kZ (s:aD):aD:=if 4000 < s.length then [] else gN s.length++s
def gZ (t:aD):Option (aD×aD):=match c5 t with
 |some (n,r)=>if n≤4000∧n≤r.length then some (r.take n,r.drop n) else none
 |none=>none
theorem S4 {s r:aD} (h:s.length≤4000):gZ (kZ s++r)=some (s,r):=by
 unfold gZ kZ
 rw[if_neg (by omega),List.append_assoc,m8 (by omega)]
 show (if _ then _ else _)=_
 rw[if_pos ⟨h,by simp⟩,List.take_left,List.drop_left]
theorem q9 {s r:aD} {n:Nat} (h:c5 s=some (n,r)):gN n++r=s∧n < 4294967296:=by
 cases s with
 |nil=>cases h
 |cons c q=>
  by_cases hc:4 < c.toNat∨q.length < c.toNat∨(q.take c.toNat).head?=some 0
  ·rw[j7 hc] at h
   cases h
  ·rw[l6 hc] at h
   cases h
   have hl:(q.take c.toNat).length≤4:=by rw[List.length_take];omega
   have hp:=a0y (c:=c) hl (by rw[List.length_take];omega)
   have hh:¬(q.take c.toNat).head?=some 0:=fun e=>hc (.inr (.inr e))
   rw[decide_eq_false hh] at hp
   have hp:gN (rL (q.take c.toNat))=c::q.take c.toNat:=by simpa using hp
   exact⟨by rw[hp,List.cons_append,List.take_append_drop],FB 4 _ hl⟩
theorem JI:∀(m:Nat) {s:aD} {l:List Nat},s.length≤m→lP s=some l→eR (nI l)=s∧∀n,n∈l→n < 4294967296
 |m,s,l,hm,h=>by
  cases hg:c5 s with
  |none=>
   by_cases hs:s=[]
   ·subst hs
    rw[tE] at h
    cases h
    exact⟨rfl,fun n hn=>by cases hn⟩
   ·rw[tT hg hs] at h
    cases h
  |some x=>
   obtain⟨n,r⟩:=x
   rw[oZ hg] at h
   cases hr:lP r with
   |none=>rw[hr] at h;cases h
   |some k=>
    rw[hr] at h
    cases h
    have hlt:=(gD hg).1
    obtain⟨h1,h2⟩:=q9 hg
    match m,hm with
    |0,hm=>omega
    |m+1,hm=>
     obtain⟨h3,h4⟩:=JI m (s:=r) (by omega) hr
     refine⟨?_,fun x hx=>?_⟩
     ·rw[←h1,←h3]
      simp[eR,nI]
     ·rcases List.mem_cons.1 hx with rfl|hx
      ·exact h2
      ·exact h4 x hx
theorem D9 {t s r:aD} (h:gZ t=some (s,r)):s.length≤4000∧kZ s++r=t:=by
 unfold gZ at h
 split at h
 ·rename_i n q e
  split at h
  ·rename_i hn
   cases h
   have hl:(q.take n).length=n:=by rw[List.length_take];omega
   unfold kZ
   rw[hl,if_neg (by omega),List.append_assoc,List.take_append_drop]
   exact⟨by omega,(q9 e).1⟩
  ·cases h
 ·cases h
theorem rC {s r:aD} {n:Nat} (h:c5 s=some (n,r)):gZ s=if n≤4000∧n≤r.length then some (r.take n,r.drop n) else none:=by
 unfold gZ
 rw[h]
theorem M5 {s:aD} (h:c5 s=none):gZ s=none:=by
 unfold gZ
 rw[h]
def gtO:Option (aD×aD)→AV
 |some (a,b)=>.tup [.str a,.str b,.bool true]
 |none=>.tup [.str [],.str [],.bool false]
theorem a6v {a b:aD} (h:a.length+b.length < 1000000000):a.length+b.length≤9223372036854775807∧a++b=a++b:=⟨by omega,rfl⟩
theorem Z1 (s:aD) (hs:s.length < 1000000):aO Tryz.prog 146 [.str s] (.tup [.str (kZ s),.int .i64 (if 4000 < s.length then 2 else 0)]):=by
 intro M
 refine aC aF Tryz.func146 rfl (by decide) (by simp[Tryz.f146]) ?_
 unfold kZ
 by_cases h:4000 < s.length
 ·have d1:decide ((4000:Int) < (s.length:Int))=true:=decide_eq_true (by omega)
  rw[if_pos h,if_pos h]
  repeat' (first|refine zB rfl d1 ?_|refine zA rfl ?_|refine aA ?_|refine aL rfl ?_)
  exact⟨rfl,_,rfl,rfl,rfl⟩
 ·have d1:decide ((4000:Int) < (s.length:Int))=false:=decide_eq_false (by omega)
  rw[if_neg h,if_neg h]
  have kn:=m6 (m:=s.length) (by omega)
  have hcat:=a6v (a:=gN s.length) (b:=s) (by have:=i8 s.length;omega)
  repeat' (first|refine zB rfl d1 ?_|refine zA rfl ?_|refine aA ?_|refine aL rfl ?_|refine aH rfl kn ?_|refine WC rfl (hcat) ?_)
  exact⟨rfl,_,rfl,rfl,rfl⟩
theorem I9 (s:aD) (hs:s.length < 4611686018427387904):aO Tryz.prog 267 [.str s] (gtO (gZ s)):=by
 intro M
 refine aC aF Tryz.func267 rfl (by decide) (by simp[Tryz.f267]) ?_
 have kg:=jS s hs
 cases hg:c5 s with
 |none=>
  rw[hg] at kg
  rw[M5 hg]
  repeat' (first|refine zA rfl ?_|refine aA ?_|refine aL rfl ?_|refine aH rfl kg ?_)
  exact⟨rfl,_,rfl,rfl,rfl⟩
 |some p=>
  obtain⟨n,r⟩:=p
  rw[hg] at kg
  have lr:=(gD hg).1
  by_cases h1:n≤4000
  ·have d1:decide ((4000:Int) < (n:Int))=false:=decide_eq_false (by omega)
   by_cases h2:n≤r.length
   ·have d2:decide ((r.length:Int) < (n:Int))=false:=decide_eq_false (by omega)
    rw[rC hg,if_pos ⟨h1,h2⟩]
    have s1:(0:Int)≤0∧(0:Int)≤(n:Int)∧(n:Int)≤(r.length:Int)∧(r.take (n:Int).toNat).drop (0:Int).toNat=r.take n:=⟨by omega,by omega,by omega,by simp⟩
    have s2:(0:Int)≤(n:Int)∧(n:Int)≤(r.length:Int)∧(r.length:Int)≤(r.length:Int)∧(r.take (r.length:Int).toNat).drop (n:Int).toNat=r.drop n:=⟨by omega,by omega,by omega,by simp⟩
    repeat' (first|refine zB rfl (by first|exact d1|exact d2) ?_|refine zA rfl ?_|refine aA ?_|refine aL rfl ?_|refine aH rfl kg ?_|refine mJ aF rfl (s1) ?_|refine mJ aF rfl (s2) ?_|refine aW mixed [0,1,2,3,4,5,6,7,8] [.P,.P,.P,.P,.P,.P,.P,.P,.P] rfl rfl (by kernel_rfl) ?_)
    exact⟨rfl,_,rfl,rfl,rfl⟩
   ·have d2:decide ((r.length:Int) < (n:Int))=true:=decide_eq_true (by omega)
    rw[rC hg,if_neg (fun h=>h2 h.2)]
    repeat' (first|refine zB rfl (by first|exact d1|exact d2) ?_|refine zA rfl ?_|refine aA ?_|refine aL rfl ?_|refine aH rfl kg ?_)
    exact⟨rfl,_,rfl,rfl,rfl⟩
  ·have d1:decide ((4000:Int) < (n:Int))=true:=decide_eq_true (by omega)
   rw[rC hg,if_neg (fun h=>h1 h.1)]
   repeat' (first|refine zB rfl d1 ?_|refine zA rfl ?_|refine aA ?_|refine aL rfl ?_|refine aH rfl kg ?_)
   exact⟨rfl,_,rfl,rfl,rfl⟩
def vR (l:List aD) (t:eE):AV:=.sl 1 (l.map AV.str) t
theorem X7 (l:List aD):∀x,x∈l.map AV.str→∀c,c∈x.cells→aN c:=by
 intro x hx c hc
 obtain⟨s,_,rfl⟩:=List.mem_map.1 hx
 have:c∈[AV.str s]:=hc
 exact aX aP c this
theorem lF (l:List aD) {t:eE} (h:t=.none∨t=.full):aN (vR l t):=bR h (fun x hx=>by obtain⟨s,_,rfl⟩:=List.mem_map.1 hx;exact aP) (X7 l)
def nO (l:List aD):aD:=l.flatMap kZ
def nL (l:List aD):aD:=gN l.length++nO l
def i6 (l:List aD):aD×Int:=if 1000 < l.length∨∃t,t∈l∧4000 < t.length then ([],2) else (nL l,0)
def iK:Nat→aD→Option (List aD×aD)
 |0,s=>some ([],s)
 |n+1,s=>match gZ s with
  |none=>none
  |some (t,r)=>match iK n r with
   |none=>none
   |some (l,q)=>some (t::l,q)
def mW (s:aD):Option (List aD×aD):=match c5 s with
 |none=>none
 |some (n,r)=>if n≤1000 then iK n r else none
theorem qQ (n:Nat) (s:aD):iK (n+1) s=match gZ s with
  |none=>none
  |some (t,r)=>match iK n r with
   |none=>none
   |some (l,q)=>some (t::l,q):=rfl
theorem BG:∀(l:List aD) (r:aD),(∀t,t∈l→t.length≤4000)→iK l.length (nO l++r)=some (l,r)
 |[],r,_=>rfl
 |t::l,r,h=>by
  have e:nO (t::l)++r=kZ t++(nO l++r):=by simp[nO]
  rw[e,List.length_cons,qQ,S4 (h t (by simp))]
  show (match iK l.length (nO l++r) with
   |none=>none
   |some (l,q)=>some (t::l,q))=_
  rw[BG l r (fun x hx=>h x (by simp[hx]))]
theorem V3 {l:List aD} (h:(i6 l).2=0) (r:aD):mW ((i6 l).1++r)=some (l,r):=by
 unfold i6 at h ⊢
 split at h
 ·cases h
 ·rename_i h1
  rw[if_neg h1]
  have hl:l.length≤1000:=by
   rcases Nat.lt_or_ge 1000 l.length with h2|h2
   ·exact absurd (.inl h2) h1
   ·exact h2
  have ht:∀t,t∈l→t.length≤4000:=by
   intro t hm
   rcases Nat.lt_or_ge 4000 t.length with h2|h2
   ·exact absurd (.inr ⟨t,hm,h2⟩) h1
   ·exact h2
  unfold mW nL
  rw[List.append_assoc,m8 (by omega)]
  show (if _ then _ else _)=_
  rw[if_pos hl,BG l r ht]
theorem CE:∀(n:Nat) {s r:aD} {l:List aD},iK n s=some (l,r)→l.length=n∧nO l++r=s∧∀t,t∈l→t.length≤4000
 |0,s,r,l,h=>by
  cases h
  exact⟨rfl,rfl,fun t ht=>by cases ht⟩
 |n+1,s,r,l,h=>by
  unfold iK at h
  split at h
  ·cases h
  ·rename_i t q e
   split at h
   ·cases h
   ·rename_i l' q' e2
    cases h
    obtain⟨h1,h2⟩:=D9 e
    obtain⟨h3,h4,h5⟩:=CE n e2
    refine⟨by simp[h3],?_,fun x hx=>?_⟩
    ·rw[←h2,←h4]
     simp[nO]
    ·rcases List.mem_cons.1 hx with rfl|hx
     ·exact h1
     ·exact h5 x hx
theorem GU {s r:aD} {l:List aD} (h:mW s=some (l,r)):i6 l=(nL l,0)∧nL l++r=s∧l.length≤1000∧∀t,t∈l→t.length≤4000:=by
 unfold mW at h
 split at h
 ·cases h
 ·rename_i n q e
  split at h
  ·rename_i hn
   obtain⟨h1,h2,h3⟩:=CE n h
   refine⟨?_,?_,by omega,h3⟩
   ·unfold i6
    rw[if_neg]
    rintro (h4|⟨t,ht,h4⟩)
    ·omega
    ·have:=h3 t ht
     omega
   ·unfold nL
    rw[h1,List.append_assoc,h2]
    exact (q9 e).1
  ·cases h
def chT (c:Ch):List aD:=[c.path,(cL c.meta_ c.gone).1]
def fO (l:List Ch):List aD:=l.flatMap chT
def xI (l:List Ch):aD×Int:=if d8 l=true then i6 (fO l) else ([],1)
def rQ:List aD→Option (List Ch)
 |p::v::r=>if (bY v).2.2=0 then (match rQ r with
  |none=>none
  |some l=>some (⟨p,(bY v).2.1,(bY v).1⟩::l)) else none
 |[]=>some []
 |[_]=>none
def mG (s:aD):Option (List Ch):=match mW s with
 |none=>none
 |some (l,r)=>if r=[]∧l.length%2=0 then (match rQ l with
  |none=>none
  |some m=>if d8 m=true then some m else none) else none
theorem mD {c:Ch} (h:iM c=true):c.path≠[]∧bN c.path=true∧pT c.meta_=true∧(c.gone=true→c.meta_=cC):=by
 unfold iM at h
 simp only[Bool.and_eq_true,Bool.not_eq_true',beq_eq_false_iff_ne,ne_eq,Bool.or_eq_true] at h
 obtain⟨⟨⟨h1,h2⟩,h3⟩,h4⟩:=h
 refine⟨h1,h2,h3,fun hg=>?_⟩
 rcases h4 with h4|h4
 ·rw[hg] at h4
  cases h4
 ·unfold wA at h4
  simp only[Bool.and_eq_true,decide_eq_true_eq] at h4
  obtain⟨⟨a,b⟩,c'⟩:=h4
  have e:c.meta_.ch=[]:=List.eq_nil_of_length_eq_zero (by omega)
  cases hm:c.meta_ with
  |mk s m k=>
   rw[hm] at a b e
   simp only at a b e
   subst a b e
   rfl
theorem GK:∀(l:List Ch),(∀c,c∈l→iM c=true)→rQ (fO l)=some l
 |[],_=>rfl
 |c::r,h=>by
  obtain⟨_,_,h3,h4⟩:=mD (h c (by simp))
  have e:fO (c::r)=c.path::(cL c.meta_ c.gone).1::fO r:=rfl
  rw[e]
  unfold rQ
  rw[GK r (fun x hx=>h x (by simp[hx]))]
  obtain⟨p,g,m⟩:=c
  cases g
  ·rw[oD h3]
   rfl
  ·rw[xA,←h4 rfl]
   rfl
theorem D8:∀l:List Int,(eR l).length≤5*l.length
 |[]=>Nat.le_refl _
 |x::r=>by
  have h1:=D8 r
  have h2:=i8 x.toNat
  have e:eR (x::r)=gN x.toNat++eR r:=by simp[eR]
  rw[e,List.length_append,List.length_cons]
  omega
theorem DK {m:Mt} {g:Bool} (h:pT m=true):(cL m g).1.length≤100:=by
 unfold cL yP
 have hl:m.ch.length≤16:=by
  unfold pT at h
  simp only[Bool.and_eq_true,decide_eq_true_eq] at h
  exact h.2.2
 have:=D8 (jI m)
 have e:(jI m).length=3+m.ch.length:=by simp[jI];omega
 rw[e] at this
 rw[if_pos h]
 cases g
 ·rw[if_neg (by simp),if_pos rfl]
  show (1::eR (jI m)).length≤100
  rw[List.length_cons]
  omega
 ·rw[if_pos rfl]
  simp
theorem uU {p:aD} (h:bN p=true):p.length≤4000:=by
 unfold bN at h
 simp at h
 rcases h with h1|h1
 ·rw[h1]
  simp
 ·omega
theorem nR:∀l:List Ch,(fO l).length=2*l.length
 |[]=>rfl
 |c::r=>by
  have:fO (c::r)=c.path::(cL c.meta_ c.gone).1::fO r:=rfl
  rw[this,List.length_cons,List.length_cons,nR r,List.length_cons]
  omega
theorem S5 {l:List Ch} (h:d8 l=true):xI l=(nL (fO l),0):=by
 obtain⟨_,h2,h3,_⟩:=kG h
 unfold xI i6
 rw[if_pos h,if_neg]
 rintro (h4|⟨t,ht,h4⟩)
 ·rw[nR] at h4
  omega
 ·obtain⟨c,hc,ht⟩:=List.mem_flatMap.1 ht
  obtain⟨_,h5,h6,_⟩:=mD (h3 c hc)
  simp only[chT,List.mem_cons,List.not_mem_nil,or_false] at ht
  rcases ht with rfl|rfl
  ·have:=uU h5
   omega
  ·have:=DK (g:=c.gone) h6
   omega
theorem pL {l:List Ch} (h:d8 l=true):mG (nL (fO l))=some l:=by
 have hp:=S5 h
 have hr:i6 (fO l)=(nL (fO l),0):=by
  have:=hp
  unfold xI at this
  rwa [if_pos h] at this
 have h1:=V3 (l:=fO l) (by rw[hr]) []
 rw[hr,List.append_nil] at h1
 unfold mG
 rw[h1]
 show (if _ then _ else _)=_
 rw[if_pos ⟨rfl,by rw[nR];omega⟩,GK l (kG h).2.2.1]
 show (if _ then _ else _)=_
 rw[if_pos h]
theorem YX {r:aD} (hg:(fS r).2=0):pT (fS r).1=true∧eR (jI (fS r).1)=r:=by
 unfold fS at hg ⊢
 cases hn:lP r with
 |none=>rw[hn] at hg;cases hg
 |some l=>
  rw[hn] at hg
  match l,hn,hg with
  |[],_,hg=>cases hg
  |[_],_,hg=>cases hg
  |[_,_],_,hg=>cases hg
  |a::b::c::l,hn,hg=>
   have e2:H7 (some (a::b::c::l))=VC a b c l:=rfl
   rw[e2] at hg ⊢
   unfold VC at hg ⊢
   split at hg
   ·rename_i h5
    rw[if_pos h5]
    obtain⟨h6,_⟩:=JI r.length (Nat.le_refl _) hn
    refine⟨h5.2,?_⟩
    rw[←h6]
    unfold jI
    simp[nI,h5.1]
   ·cases hg
theorem CN {v:aD} (h:(bY v).2.2=0):(cL (bY v).1 (bY v).2.1).1=v∧pT (bY v).1=true:=by
 match v,h with
 |[],h=>cases h
 |c::r,h=>
  have e:bY (c::r)=if c=0∧r=[] then (cC,true,0) else if c=1 then ((fS r).1,false,(fS r).2) else (cC,false,30):=rfl
  rw[e] at h ⊢
  split at h
  ·rename_i h1
   obtain⟨rfl,rfl⟩:=h1
   exact⟨rfl,rfl⟩
  ·rename_i h1
   rw[if_neg h1]
   split at h
   ·rename_i h2
    subst h2
    rw[if_pos rfl]
    have hg:(fS r).2=0:=h
    obtain⟨h3,h4⟩:=YX hg
    refine⟨?_,h3⟩
    show (cL (fS r).1 false).1=1::r
    unfold cL yP
    rw[if_neg (by simp),if_pos h3,if_pos rfl,h4]
   ·cases h
theorem IO:∀(l:List aD) {m:List Ch},rQ l=some m→fO m=l
 |[],m,h=>by
  cases h
  rfl
 |[_],m,h=>by cases h
 |p::v::r,m,h=>by
  unfold rQ at h
  split at h
  ·rename_i h1
   split at h
   ·cases h
   ·rename_i m' e
    cases h
    have e2:fO (⟨p,(bY v).2.1,(bY v).1⟩::m')=p::(cL (bY v).1 (bY v).2.1).1::fO m':=rfl
    rw[e2,(CN h1).1,IO r e]
  ·cases h
theorem J0 {s:aD} {l:List Ch} (h:mG s=some l):d8 l=true∧xI l=(s,0):=by
 unfold mG at h
 split at h
 ·cases h
 ·rename_i k r e
  split at h
  ·rename_i h1
   obtain⟨rfl,_⟩:=h1
   split at h
   ·cases h
   ·rename_i m e2
    split at h
    ·rename_i hb
     cases h
     obtain⟨h3,h4,_,_⟩:=GU e
     have h5:=IO k e2
     refine⟨hb,?_⟩
     unfold xI
     rw[if_pos hb,h5,h3]
     rw[List.append_nil] at h4
     rw[h4]
    ·cases h
  ·cases h
theorem QX {l:List aD} {i:Nat} {t:aD} (h:l[i]? =some t):nO (l.take (i+1))=nO (l.take i)++kZ t:=by
 unfold nO
 rw[bM h]
 simp
theorem BZ (t:aD):(kZ t).length≤4005:=by
 unfold kZ
 split
 ·simp
 ·have:=i8 t.length
  rw[List.length_append]
  omega
theorem yN:∀l:List aD,(nO l).length≤4005*l.length
 |[]=>Nat.le_refl _
 |t::r=>by
  have h1:=yN r
  have h2:=BZ t
  have e:nO (t::r)=kZ t++nO r:=by simp[nO]
  rw[e,List.length_append,List.length_cons]
  omega
theorem Q6 {l:List aD} (h:1000 < l.length):i6 l=([],2):=by
 unfold i6
 rw[if_pos (.inl h)]
theorem VY {l:List aD} {t:aD} (hm:t∈l) (h:4000 < t.length):i6 l=([],2):=by
 unfold i6
 rw[if_pos (.inr ⟨t,hm,h⟩)]
theorem a4b {l:List aD} (h1:l.length≤1000) (h2:∀t,t∈l→t.length≤4000):i6 l=(nL l,0):=by
 unfold i6
 rw[if_neg]
 rintro (h|⟨t,ht,h⟩)
 ·omega
 ·have:=h2 t ht
  omega
theorem SK {l:List aD} (h:∀(j:Nat) t,j < l.length→l[j]? =some t→t.length≤4000):∀t,t∈l→t.length≤4000:=by
 intro t ht
 obtain⟨j,hj⟩:=List.mem_iff_getElem?.1 ht
 exact h j t (List.getElem?_eq_some_iff.1 hj).1 hj
theorem S6 {s:aD} (h:c5 s=none):mW s=none:=by
 unfold mW
 rw[h]
theorem RE {s r:aD} {n:Nat} (h:c5 s=some (n,r)):mW s=if n≤1000 then iK n r else none:=by
 unfold mW
 rw[h]
def AtT (s:aD) (l:List aD) (q:aD):Prop:=∀k,iK (l.length+k) s=(iK k q).map fun p=>(l++p.1,p.2)
theorem a0k (s:aD):AtT s [] s:=fun k=>by
 show iK (0+k) s=_
 rw[Nat.zero_add]
 cases iK k s<;>rfl
theorem YH {s q r t:aD} {l:List aD} (h:AtT s l q) (e:gZ q=some (t,r)):AtT s (l++[t]) r:=fun k=>by
 have h1:=h (k+1)
 rw[qQ,e] at h1
 have e2:(l++[t]).length+k=l.length+(k+1):=by simp;omega
 rw[e2,h1]
 show Option.map _ (match iK k r with
   |none=>none
   |some (l',q')=>some (t::l',q'))=_
 cases iK k r<;>simp
theorem WX {s q:aD} {l:List aD} {n:Nat} (h:AtT s l q) (e:gZ q=none) (hk:l.length < n):iK n s=none:=by
 have h1:=h (n - l.length - 1+1)
 rw[qQ,e] at h1
 rw[show n=l.length+(n - l.length - 1+1) by omega]
 exact h1
theorem a3y {s q:aD} {l:List aD} (h:AtT s l q):iK l.length s=some (l,q):=by
 have h1:=h 0
 rw[Nat.add_zero] at h1
 rw[h1]
 simp[iK]
theorem UI {q r t:aD} (e:gZ q=some (t,r)):r.length≤q.length:=by
 have h:=congrArg List.length (D9 e).2
 rw[List.length_append] at h
 omega
def grA:Option (List aD×aD)→AV
 |some (l,r)=>.tup [vR l .none,.str r,.bool true]
 |none=>.tup [vR [] .none,.str [],.bool false]
theorem N9 (x:Option (List aD×aD)):aN (grA x):=by
 cases x with
 |none=>exact aS (bK (lF _ (.inl rfl)) aP aK)
 |some p=>exact aS (bK (lF _ (.inl rfl)) aP aK)
theorem E2 {k:Nat}:aI k (.tup [.sl 0 [] .full,.str [],.bool false]) (grA none):=aI.tup3 aI.nil (aI.of_closed aP) (aI.of_closed aK)
theorem ZN (l:List aD) (x:aD) {i g:Nat}:AV.sl 1 ((l++[x]).map AV.str) (.tok i g)=.sl 1 (l.map AV.str++[.str x]) (.tok i g):=by simp
def rF (s:aD) (e:cH) (d:List AV):Prop:=match gZ s with
 |none=>e=.ret (.tup [.str [],.str [],.bool false])∧d=[.str []]
 |some (t,r)=>e=.ret (.tup [.str t,.str r,.bool true])∧d=[.str r]
theorem S8 (s:aD):aQ Tryz.prog 202 [.str s] ⟨0,[]⟩ (fun e N=>e=.ret (.fn (.func 266) [] [.ptr 0 0])∧N=⟨1,[(0,.cells [.str s])]⟩):=by
 refine aC aF Tryz.func202 rfl (by decide) (by simp[Tryz.f202]) ?_
 repeat' (first|refine iT 1 aF rfl ?_|refine zA rfl ?_|refine aA ?_|refine aL rfl ?_)
 exact⟨rfl,_,rfl,rfl,rfl⟩
theorem a33 (s:aD) (hs:s.length < 4611686018427387904):aQ Tryz.prog 266 [.ptr 0 0] ⟨1,[(0,.cells [.str s])]⟩ (fun e N=>N.next=1∧∃d,N.get 0=some (.cells d)∧rF s e d):=by
 refine aC aF Tryz.func266 rfl (by decide) (by simp[Tryz.f266]) ?_
 have kt:=I9 s hs
 unfold rF
 cases ht:gZ s with
 |none=>
  rw[ht] at kt
  repeat' (first|refine zA rfl ?_|refine aA ?_|refine aL rfl ?_|refine aH rfl kt ?_|refine aW mixed [0,2,3,1,4,5] [.P,.R,.P,.P,.P,.P] rfl rfl (by kernel_rfl) ?_)
  exact⟨rfl,_,rfl,rfl,_,rfl,rfl,rfl⟩
 |some p=>
  obtain⟨t,r⟩:=p
  rw[ht] at kt
  repeat' (first|refine zA rfl ?_|refine aA ?_|refine aL rfl ?_|refine aH rfl kt ?_|refine aW mixed [0,2,3,1,4,5] [.P,.R,.P,.P,.P,.P] rfl rfl (by kernel_rfl) ?_)
  exact⟨rfl,_,rfl,rfl,_,rfl,rfl,rfl⟩
theorem C7 {M:aG} {id:Nat} {s:aD} (hM:M.get id=some (.cells [.str s])) (hlt:id < M.next) (hs:s.length < 4611686018427387904):
  aQ Tryz.prog 266 [.ptr id 0] M fun e N=>∃d,rF s e d∧N=M.set id (.cells d):=by
 refine aQ.frame1 id hM hlt (aX aP) (a33 s hs) ⟨kP.ptr rfl,trivial⟩ ?_
 intro e d h
 refine⟨?_,?_,d,h,rfl⟩
 ·unfold rF at h
  split at h
  ·obtain⟨rfl,_⟩:=h
   exact aS (bK aP aP aK)
  ·obtain⟨rfl,_⟩:=h
   exact aS (bK aP aP aK)
 ·unfold rF at h
  split at h
  ·obtain⟨_,rfl⟩:=h
   exact aX aP
  ·obtain⟨_,rfl⟩:=h
   exact aX aP
theorem MX {M:aG} {id:Nat} {s:aD} (ht:gZ s=none) (hM:M.get id=some (.cells [.str s])) (hlt:id < M.next) (hs:s.length < 4611686018427387904):
  aQ Tryz.prog 266 [.ptr id 0] M fun e N=>e=.ret (.tup [.str [],.str [],.bool false])∧N=M.set id (.cells [.str []]):=by
 refine (C7 hM hlt hs).mono ?_
 rintro e N ⟨d,h,rfl⟩
 unfold rF at h
 rw[ht] at h
 obtain⟨rfl,rfl⟩:=h
 exact⟨rfl,rfl⟩
theorem KC {M:aG} {id:Nat} {s t r:aD} (ht:gZ s=some (t,r)) (hM:M.get id=some (.cells [.str s])) (hlt:id < M.next) (hs:s.length < 4611686018427387904):
  aQ Tryz.prog 266 [.ptr id 0] M fun e N=>e=.ret (.tup [.str t,.str r,.bool true])∧N=M.set id (.cells [.str r]):=by
 refine (C7 hM hlt hs).mono ?_
 rintro e N ⟨d,h,rfl⟩
 unfold rF at h
 rw[ht] at h
 obtain⟨rfl,rfl⟩:=h
 exact⟨rfl,rfl⟩
def grM (q:aD) (g:Nat):aG:=⟨2,[(0,.cells [.str q]),(1,.spare g)]⟩
def grF (n:Nat) (l:List aD) (q:aD) (g i:Nat):AF:=⟨[(6,.str q),(8,vR l (.tok 1 g)),(9,.fn (.func 266) [] [.ptr 0 0]),(27,.int .i64 (n:Int)),(28,.int .i64 (i:Int))],[]⟩
theorem KO (s:aD) (hs:s.length < 1000000):aO Tryz.prog 163 [.str s] (grA (mW s)):=by
 refine aU (aX aP) (N9 _) ?_
 refine aC aF Tryz.func163 rfl (by decide) (by simp[Tryz.f163]) ?_
 have kg:=jS s (by omega)
 cases hg:c5 s with
 |none=>
  rw[hg] at kg
  rw[S6 hg]
  repeat' (first|refine zA rfl ?_|refine aA ?_|refine aL rfl ?_|refine aH rfl kg ?_)
  exact⟨rfl,_,rfl,_,rfl,E2⟩
 |some p=>
  obtain⟨n,r⟩:=p
  rw[hg] at kg
  have lr:=(gD hg).1
  rw[RE hg]
  by_cases h1:n≤1000
  ·have d1:decide ((1000:Int) < (n:Int))=false:=decide_eq_false (by omega)
   rw[if_pos h1]
   repeat' (first|refine zB rfl d1 ?_|refine zA rfl ?_|refine aA ?_|refine aL rfl ?_|refine aH rfl kg ?_|refine bS rfl rfl (S8 r) ?_ ?_)
   rotate_left
   ·intro u M' h
    cases h.1
   rintro u M' ⟨e,rfl⟩
   cases e
   repeat' (first|refine zA rfl ?_|refine aA ?_|refine aL rfl ?_)
   refine bC n (fun i f N=>∃l q g,l.length=i∧AtT r l q∧q.length≤r.length∧N=grM q g∧f=grF n l q g i) (Nat.zero_le _) ⟨[],r,0,rfl,a0k r,Nat.le_refl _,rfl,rfl⟩ ((aR.tok 8 rfl (sz':=1) (.inr rfl)).trans (aR.le ?_ (aG.le_cons rfl (aG.le_cons rfl (aG.le_nil rfl))))) ?_
   ·unfold grF vR
    repeat (refine AF.le_cons rfl ?_)
    exact AF.le_nil rfl
   rintro i f N hi ⟨l,q,g,rfl,am,lq,rfl,rfl⟩
   unfold grF vR
   have lm:=bA AV.str l
   by_cases g1:l.length < n
   ·have d2:decide ((l.length:Int) < (n:Int))=true:=decide_eq_true (by omega)
    have fi:=aZ (i:=l.length) (by omega)
    cases ht:gZ q with
    |none=>
     rw[WX am ht g1]
     repeat' (first|refine zB rfl d2 ?_|refine zA rfl ?_|refine aA ?_|refine aL rfl ?_)
     refine bS rfl rfl (MX ht rfl (by show 0 < 2;decide) (by omega)) ?_ ?_
     rotate_left
     ·rintro u N ⟨h,_⟩
      cases h
     rintro u N ⟨h,rfl⟩
     cases h
     repeat' (first|refine zA rfl ?_|refine aA ?_|refine aL rfl ?_)
     exact⟨rfl,_,rfl,_,rfl,E2⟩
    |some p=>
     obtain⟨t,q2⟩:=p
     have am2:=YH am ht
     have lr2:=UI ht
     repeat' (first|refine zB rfl d2 ?_|refine zA rfl ?_|refine aA ?_|refine aL rfl ?_)
     refine bS rfl rfl (KC ht rfl (by show 0 < 2;decide) (by omega)) ?_ ?_
     rotate_left
     ·rintro u N ⟨h,_⟩
      cases h
     rintro u N ⟨h,rfl⟩
     cases h
     repeat' (first|refine zI rfl fi ?_|refine zA rfl ?_|refine aA ?_|refine aL rfl ?_|refine zR rfl ?_|refine zP rfl rfl ?_)
     refine⟨g1,grF n (l++[t]) q2 (g+1) (l.length+1),grM q2 (g+1),⟨l++[t],q2,g+1,by simp,am2,by omega,rfl,rfl⟩,aR.le ?_ (aG.le_cons rfl (aG.le_cons rfl (aG.le_nil rfl)))⟩
     unfold grF vR
     rw[ZN]
     repeat (refine AF.le_cons rfl ?_)
     exact AF.le_nil rfl
   ·have d2:decide ((l.length:Int) < (n:Int))=false:=decide_eq_false (by omega)
    obtain rfl:l.length=n:=by omega
    rw[a3y am]
    have hc:=lF l (t:=.none) (.inl rfl)
    unfold vR at hc
    repeat' (first|refine zB rfl d2 ?_|refine zA rfl ?_|refine aA ?_|refine aL rfl ?_)
    exact⟨rfl,_,rfl,_,rfl,aI.tup3 (aI.untag hc) (aI.of_closed aP) (aI.of_closed aK)⟩
  ·have d1:decide ((1000:Int) < (n:Int))=true:=decide_eq_true (by omega)
   rw[if_neg h1]
   repeat' (first|refine zB rfl d1 ?_|refine zA rfl ?_|refine aA ?_|refine aL rfl ?_|refine aH rfl kg ?_)
   exact⟨rfl,_,rfl,_,rfl,E2⟩
theorem ZD {t:aD} (h:¬4000 < t.length):kZ t≠[]:=by
 unfold kZ
 rw[if_neg h]
 simp[gN]
theorem a2n (l:List aD) (tg:eE) (htg:tg=.none∨tg=.full) (hl:l.length < 1000000) (hs:∀t,t∈l→t.length < 1000000):aO Tryz.prog 98 [vR l tg] (.tup [.str (i6 l).1,.int .i64 (i6 l).2]):=by
 refine aU (aX (lF l htg)) (aS (aV aP aB)) ?_
 refine aC aF Tryz.func98 rfl (by decide) (by simp[Tryz.f98]) ?_
 have la:=bA AV.str l
 unfold vR
 by_cases h1:1000 < l.length
 ·have d1:decide ((1000:Int) < (l.length:Int))=true:=decide_eq_true (by omega)
  rw[Q6 h1]
  repeat' (first|refine zB rfl d1 ?_|refine zI rfl la ?_|refine zA rfl ?_|refine aA ?_|refine aL rfl ?_)
  exact⟨rfl,_,rfl,_,rfl,aI.of_closed (aS (aV aP aB))⟩
 ·have d1:decide ((1000:Int) < (l.length:Int))=false:=decide_eq_false (by omega)
  have kn:=m6 (m:=l.length) (by omega)
  have lp:=i8 l.length
  repeat' (first|refine MH rfl wZ.v72 ?_|refine zB rfl d1 ?_|refine zI rfl la ?_|refine zA rfl ?_|refine aA ?_|refine aL rfl ?_|refine aH rfl kn ?_)
  refine bS rfl rfl (zO (k:=1) (by decide) (bs:=[]) (.inl ⟨rfl,rfl⟩) (by simp[gN]) (by simp;omega)) ?_ (fun u M' h=>by cases h.1)
  rintro u N' ⟨e,N2,hN2,hle⟩
  cases e
  repeat' (first|refine zI rfl la ?_|refine zA rfl ?_|refine aA ?_|refine aL rfl ?_)
  refine bC l.length (fun i f N=>RG 1 (gN l.length++nO (l.take i)) N∧(∀(j:Nat) t,j < i→l[j]? =some t→t.length≤4000)∧f=⟨[(4,.ptr 0 0),(6,.int .i64 0),(22,.sl 1 (l.map AV.str) tg),(23,.int .i64 (l.length:Int)),(24,.int .i64 (i:Int))],[]⟩) (Nat.zero_le _) ⟨by simpa [nO] using hN2,(fun j t hj=>absurd hj (Nat.not_lt_zero _)),rfl⟩ (aR.le ?_ hle) ?_
  ·skip
   repeat (refine AF.le_cons rfl ?_)
   exact AF.le_nil rfl
  rintro i f N hi ⟨hN,hb,rfl⟩
  have a1:=i8 l.length
  have a2:=yN (l.take i)
  rw[List.length_take] at a2
  by_cases g1:i < l.length
  ·have d2:decide ((i:Int) < (l.length:Int))=true:=by simp;omega
   have hy:l[i]? =some l[i]:=List.getElem?_eq_getElem g1
   have hm:=List.getElem_mem g1
   have fi:=aZ (i:=i) (by omega)
   have hc:=QX hy
   generalize l[i]=t at hy hm hc
   have kt:=Z1 t (hs t hm)
   by_cases h2:4000 < t.length
   ·rw[VY hm h2]
    rw[if_pos h2] at kt
    repeat' (first|refine zB rfl d2 ?_|refine zA rfl ?_|refine aA ?_|refine aL rfl ?_|refine aH rfl kt ?_|refine zX rfl (fB hy) ?_)
    exact⟨rfl,_,rfl,_,rfl,aI.of_closed (aS (aV aP aB))⟩
   ·rw[if_neg h2] at kt
    have a3:=BZ t
    repeat' (first|refine zB rfl d2 ?_|refine zA rfl ?_|refine aA ?_|refine aL rfl ?_|refine aH rfl kt ?_|refine zX rfl (fB hy) ?_)
    refine bS rfl rfl (zO (by decide) hN (ZD h2) (by rw[List.length_append];omega)) ?_ (fun u M' h=>by cases h.1)
    rintro u N' ⟨e,N3,hN3,hle3⟩
    cases e
    repeat' (first|refine zI rfl fi ?_|refine zA rfl ?_|refine aA ?_|refine aL rfl ?_)
    refine⟨g1,_,_,⟨?_,?_,rfl⟩,aR.le ?_ hle3⟩
    ·rw[hc,←List.append_assoc]
     exact hN3
    ·intro j u hj hu
     by_cases hji:j=i
     ·subst hji
      rw[hy] at hu
      cases hu
      omega
     ·exact hb j u (by omega) hu
    ·skip
     repeat (refine AF.le_cons rfl ?_)
     exact AF.le_nil rfl
  ·have d2:decide ((i:Int) < (l.length:Int))=false:=by simp;omega
   obtain rfl:i=l.length:=by omega
   rw[List.take_length] at hN a2
   rw[a4b (by omega) (SK hb)]
   unfold nL
   repeat' (first|refine zB rfl d2 ?_|refine aA ?_|refine aL rfl ?_)
   refine bS rfl rfl (PU (by decide) hN (by simp[gN]) (by rw[List.length_append];omega)) ?_ (fun u M' h=>by cases h.1)
   rintro u N' ⟨e,hn⟩
   cases e
   repeat' (first|refine zA rfl ?_|refine aA ?_|refine aL rfl ?_)
   exact⟨rfl,_,rfl,_,rfl,aI.of_closed (aS (aV aP aB))⟩
theorem a3m {α:Type} {f:α→AV} {l:List α} {n:Nat} (h:n≤l.length):(0:Int)≤(n:Int)∧(n:Int)≤((l.map f).length:Int)∧((l.map f).length:Int)≤((l.map f).length:Int)∧((l.map f).take ((l.map f).length:Int).toNat).drop (n:Int).toNat=(l.drop n).map f:=⟨by omega,by simp;omega,Int.le_refl _,by
 have:(l.map f).take ((l.map f).length:Int).toNat=l.map f:=List.take_of_length_le (by simp)
 rw[this]
 simp⟩
def nmA (x:List Ch×Int):AV:=.tup [mU x.1 .none,.int .i64 x.2]
theorem KZ (x:List Ch×Int):aN (nmA x):=aS (aV (gQ _ (.inl rfl)) aB)
theorem XT (a b:List Ch):fO (a++b)=fO a++fO b:=by simp[fO]
theorem LI {l:List Ch} (h:∀c,c∈l→iM c=true):∀t,t∈fO l→t.length≤4000:=by
 intro t ht
 obtain⟨c,hc,ht⟩:=List.mem_flatMap.1 ht
 obtain⟨_,h5,h6,_⟩:=mD (h c hc)
 simp only[chT,List.mem_cons,List.not_mem_nil,or_false] at ht
 rcases ht with rfl|rfl
 ·exact uU h5
 ·have:=DK (g:=c.gone) h6
  omega
theorem Y3 (l:List aD) (x y:aD) {i g:Nat}:AV.sl 1 ((l++[x,y]).map AV.str) (.tok i g)=.sl 1 (l.map AV.str++[.str x,.str y]) (.tok i g):=by simp
def pcA (x:aD×Int):AV:=.tup [.str x.1,.int .i64 x.2]
theorem qN (x:aD×Int):aN (pcA x):=aS (aV aP aB)
theorem a11 {l:List Ch} (h:d8 l=false):xI l=([],1):=by
 unfold xI
 rw[if_neg (by simp[h])]
theorem YR {l:List Ch} (h:d8 l=true):xI l=i6 (fO l):=by
 unfold xI
 rw[if_pos h]
end Go.Proofs.YteliblifgdofgaaGreatDoor
