/- Parts of the proof, one behind the other. No further condition. -/
import Derived.Test.YthnhbmlefiafaaaGreatDoorK21
set_option linter.unusedVariables false
set_option linter.unusedSimpArgs false
set_option maxRecDepth 100000
set_option maxHeartbeats 8000000
namespace Go.Proofs.YthnhbmlefiafaaaGreatDoor
open Go.Ab Go.Shelf Go.RowKit Go.Lib Go.Sort
def oH:List Pn→Pn→List Pn
 |[],p=>[p]
 |x::r,p=>if x.session < p.session then x::oH r p else p::x::r
theorem QU:∀{l:List Pn} {p:Pn} {i:Nat},i≤l.length→(∀(j:Nat) d,j < i→l[j]? =some d→d.session < p.session)→(∀d,l[i]? =some d→¬d.session < p.session)→oH l p=l.take i++p::l.drop i
 |[],p,i,hi,_,_=>by
  obtain rfl:i=0:=by simpa using hi
  rfl
 |x::r,p,0,_,_,h=>by
  show (if x.session < p.session then _ else _)=_
  rw[if_neg (h x rfl)]
  rfl
 |x::r,p,i+1,hi,h1,h2=>by
  show (if x.session < p.session then _ else _)=_
  rw[if_pos (h1 0 x (Nat.zero_lt_succ _) rfl),QU (i:=i) (Nat.le_of_succ_le_succ hi) (fun j d hj hd=>h1 (j+1) d (Nat.succ_lt_succ hj) (by simpa using hd)) (fun d hd=>h2 d (by simpa using hd))]
  rfl
def oV (l:List Pn) (p:Pn):List Pn×Int:=if (iT l&&dP p)=true then (if l.any (cG p.session)=true then ([],170) else if 50≤l.length then ([],2) else (oH l p,0)) else ([],1)
def gF (l:List Pn) (s:Int):List Pn×Int:=if iT l=true then (if l.any (cG s)=true then (l.filter (fun x=>!cG s x),0) else ([],80)) else ([],1)
def NP (z:List Pn×Int):AV:=.tup [bI z.1 .none,.int .i64 z.2]
theorem n7 (z:List Pn×Int):aP (NP z):=aW (aZ (bP _ (.inl rfl)) aB)
theorem uR {k:Nat} (n:Int):aH k (.tup [.sl 0 [] .full,.int .i64 n]) (NP ([],n)):=aH.tup2 aH.nil (aH.of_closed aB)
theorem nB {α:Type} {q:α→Bool} {k:α→Int}:∀{l:List α} {p:Option Int},gW q k p l=true→(∀n,p=some n→∀x,x∈l→n < k x)∧l.Pairwise fun a b=>k a < k b
 |[],p,_=>⟨fun _ _ x hx=>(by cases hx),List.Pairwise.nil⟩
 |x::r,p,h=>by
  have h2:gW q k (some (k x)) r=true∧∀n,p=some n→n < k x:=by
   cases p with
   |none=>
    simp[gW] at h
    exact⟨h.2,by intro n hn;cases hn⟩
   |some n=>
    simp[gW] at h
    exact⟨h.2,by intro m hm;cases hm;exact h.1.2⟩
  obtain⟨h3,h4⟩:=nB h2.1
  have h5:=h3 _ rfl
  refine⟨fun n hn y hy=>?_,List.Pairwise.cons h5 h4⟩
  have:=h2.2 n hn
  rcases List.mem_cons.1 hy with rfl|hy
  ·exact this
  ·exact Int.lt_trans this (h5 y hy)
theorem OV {α:Type} {k:α→Int}:∀{a b:List α},a.Perm b→(a.Pairwise fun x y=>k x < k y)→(b.Pairwise fun x y=>k x≤k y)→a=b
 |[],b,h,_,_=>(List.nil_perm.1 h).symm
 |x::r,[],h,_,_=>absurd h.length_eq (by simp)
 |x::r,y::s,h,ha,hb=>by
  rw[List.pairwise_cons] at ha hb
  have hx:x∈y::s:=h.subset (by simp)
  have hy:y∈x::r:=h.symm.subset (by simp)
  have e:x=y:=by
   rcases List.mem_cons.1 hx with e|hx
   ·exact e
   ·rcases List.mem_cons.1 hy with e|hy
    ·exact e.symm
    ·have:=ha.1 y hy
     have:=hb.1 x hx
     omega
  subst e
  rw[OV (List.Perm.cons_inv h) ha.2 hb.2]
theorem mJ:∀(l:List Pn) (p:Pn),(oH l p).Perm (l++[p])
 |[],p=>List.Perm.refl _
 |x::r,p=>by
  show (if x.session < p.session then _ else _:List Pn).Perm _
  split
  ·exact (mJ r p).cons x
  ·have:(p::x::r).Perm ((x::r)++[p]):=(List.perm_append_comm (l₁:=[p]) (l₂:=x::r))
   exact this
theorem EJ:∀{l:List Pn} {p:Pn},(l.Pairwise fun a b=>a.session < b.session)→(∀x,x∈l→x.session≠p.session)→(oH l p).Pairwise fun a b=>a.session < b.session
 |[],p,_,_=>by simp[oH]
 |x::r,p,h,hn=>by
  rw[List.pairwise_cons] at h
  show (if x.session < p.session then _ else _:List Pn).Pairwise _
  have hx:=hn x (by simp)
  split
  ·next g=>
   refine List.Pairwise.cons (fun y hy=>?_) (EJ h.2 fun y hy=>hn y (by simp[hy]))
   have:=(mJ r p).subset hy
   rcases List.mem_append.1 this with hy|hy
   ·exact h.1 y hy
   ·simp at hy
    rw[hy]
    exact g
  ·next g=>
   have g2:p.session < x.session:=by omega
   refine List.Pairwise.cons (fun y hy=>?_) (List.Pairwise.cons h.1 h.2)
   rcases List.mem_cons.1 hy with rfl|hy
   ·exact g2
   ·exact Int.lt_trans g2 (h.1 y hy)
theorem VS (l:List Pn) (c:Pn) (i k:Nat):(l.take i++c::l.drop k).map Pn.av=[]++(l.take i).map Pn.av++[c.av]++(l.drop k).map Pn.av:=by simp
theorem a1s (p:Pn):(gW dP Pn.session none [p]&&decide ([p].length≤50))=dP p:=by simp[gW]
theorem ZI (l:List Pn) (p:Pn) (hl:l.length < 100000):aN Tryz.prog 156 [bI l .none,p.av] (NP (oV l p)):=by
 refine aT (aZ (bP l (.inl rfl)) (uL p)) (n7 _) ?_
 refine aC aF Tryz.func156 rfl (by decide) (by simp[Tryz.f156]) ?_
 have la:=aU Pn.av l
 have k1:=pX l (by omega)
 have k2:=(pX [p] (by simp)).sub (args:=[.sl 2 [p.av] .full]) ⟨Sub.untag,trivial⟩
 rw[a1s] at k2
 have k3:=P9 l .none (by omega) p.session
 unfold pfA at k3
 unfold oV
 unfold iT
 unfold bI at*
 cases h1:gW dP Pn.session none l&&decide (l.length≤50)
 ·rw[h1] at k1
  repeat' (first|refine zA rfl ?_|refine aA ?_|refine aJ rfl ?_|refine aD rfl k1 ?_)
  exact⟨rfl,_,rfl,_,rfl,uR 1⟩
 ·rw[h1] at k1
  cases h2:dP p
  ·rw[h2] at k2
   repeat' (first|refine zA rfl ?_|refine aA ?_|refine aJ rfl ?_|refine aD rfl k1 ?_|refine aD rfl k2 ?_|refine zR rfl ?_)
   exact⟨rfl,_,rfl,_,rfl,uR 1⟩
  ·rw[h2] at k2
   rw[if_pos (by rfl)]
   cases h3:l.any (cG p.session)
   ·rw[h3] at k3
    by_cases h4:50≤l.length
    ·have d4:decide ((l.length:Int)≥50)=true:=decide_eq_true (by omega)
     rw[if_neg (by simp),if_pos h4]
     repeat' (first|refine zB rfl d4 ?_|refine zI rfl la ?_|refine zA rfl ?_|refine aA ?_|refine aJ rfl ?_|refine aD rfl k1 ?_|refine aD rfl k2 ?_|refine aD rfl k3 ?_|refine zR rfl ?_)
     exact⟨rfl,_,rfl,_,rfl,uR 2⟩
    ·have d4:decide ((l.length:Int)≥50)=false:=decide_eq_false (by omega)
     rw[if_neg (by simp),if_neg h4]
     repeat' (first|refine zB rfl d4 ?_|refine zI rfl la ?_|refine zA rfl ?_|refine aA ?_|refine aJ rfl ?_|refine aD rfl k1 ?_|refine aD rfl k2 ?_|refine aD rfl k3 ?_|refine zR rfl ?_)
     refine aX l.length (fun i f N=>N=⟨0,[]⟩∧(∀(j:Nat) d,j < i→l[j]? =some d→d.session < p.session)∧f=⟨[(0,.sl 2 (l.map Pn.av) .none),(3,.ref p.av.cells),(8,.int .i64 (i:Int))],[]⟩) (Nat.zero_le _) ⟨rfl,(fun j d hj=>absurd hj (Nat.not_lt_zero _)),rfl⟩ (aM.le ?_ (aI.le_refl _)) ?_
     ·skip
      repeat (refine AF.le_cons rfl ?_)
      exact AF.le_nil rfl
     rintro i f N hi ⟨rfl,hlt,rfl⟩
     have stop:(∀d,l[i]? =some d→¬d.session < p.session)→aP (bI (oH l p) .none)∧(oH l p).map Pn.av=[]++(l.take i).map Pn.av++[p.av]++(l.drop i).map Pn.av:=fun h=>⟨bP _ (.inl rfl),by rw[QU hi hlt h,VS]⟩
     unfold bI at stop
     by_cases g1:i < l.length
     ·have d1:decide ((i:Int) < (l.length:Int))=true:=decide_eq_true (by omega)
      have hx:l[i]? =some l[i]:=List.getElem?_eq_getElem g1
      have fi:=aQ (i:=i) (by omega)
      generalize l[i]=x at hx
      by_cases g3:x.session < p.session
      ·have d3:decide (x.session < p.session)=true:=decide_eq_true g3
       repeat' (first|refine zB rfl (by first|exact d1|exact d3) ?_|refine zI rfl (by first|exact la|exact fi) ?_|refine zA rfl ?_|refine aA ?_|refine aJ rfl ?_|refine zX rfl (c7 hx) ?_|refine aO mixed [0,1,2,3,4,5,6,7,8,9,10,11,12,13] [.P,.P,.P,.P,.P,.P,.P,.R,.R,.R,.R,.R,.P,.P] rfl rfl (by kernel_rfl) ?_)
       refine⟨g1,_,_,⟨rfl,?_,rfl⟩,aM.le ?_ (aI.le_refl _)⟩
       ·intro j d hj hd
        by_cases hji:j=i
        ·subst hji
         rw[hx] at hd
         cases hd
         exact g3
        ·exact hlt j d (by omega) hd
       ·skip
        repeat (refine AF.le_cons rfl ?_)
        exact AF.le_nil rfl
      ·have d3:decide (x.session < p.session)=false:=decide_eq_false g3
       obtain⟨hcl,e⟩:=stop (fun d hd=>by rw[hx] at hd;cases hd;exact g3)
       repeat' (first|refine zB rfl (by first|exact d1|exact d3) ?_|refine zI rfl la ?_|refine zA rfl ?_|refine aA ?_|refine aJ rfl ?_|refine zX rfl (c7 hx) ?_|refine i5 aF rfl (HZ (Nat.le_of_lt g1)) ?_|refine i5 aF rfl (q7 (Nat.le_of_lt g1)) ?_|refine zR rfl ?_|refine zP rfl rfl ?_|refine zQ rfl ?_|refine aO mixed [0,1,2,3,4,5,6,7,8,9,10,11,12,13] [.P,.P,.P,.P,.P,.P,.P,.R,.R,.R,.R,.R,.P,.P] rfl rfl (by kernel_rfl) ?_)
       refine⟨rfl,_,rfl,_,rfl,aH.tup2 ?_ (aH.of_closed aB)⟩
       show aH _ _ (.sl 2 ((oH l p).map Pn.av) .none)
       rw[e] at hcl ⊢
       exact aH.untag hcl
     ·have d1:decide ((i:Int) < (l.length:Int))=false:=decide_eq_false (by omega)
      obtain rfl:i=l.length:=by omega
      obtain⟨hcl,e⟩:=stop (fun d hd=>by simp at hd)
      repeat' (first|refine zB rfl d1 ?_|refine zI rfl la ?_|refine zA rfl ?_|refine aA ?_|refine aJ rfl ?_|refine i5 aF rfl (HZ (Nat.le_refl _)) ?_|refine i5 aF rfl (q7 (Nat.le_refl _)) ?_|refine zR rfl ?_|refine zP rfl rfl ?_|refine zQ rfl ?_|refine aO mixed [0,1,2,3,4,5,6,7,8,9,10,11,12,13] [.P,.P,.P,.P,.P,.P,.P,.R,.R,.R,.R,.R,.P,.P] rfl rfl (by kernel_rfl) ?_)
      refine⟨rfl,_,rfl,_,rfl,aH.tup2 ?_ (aH.of_closed aB)⟩
      show aH _ _ (.sl 2 ((oH l p).map Pn.av) .none)
      rw[e] at hcl ⊢
      exact aH.untag hcl
   ·rw[h3] at k3
    rw[if_pos rfl]
    repeat' (first|refine zA rfl ?_|refine aA ?_|refine aJ rfl ?_|refine aD rfl k1 ?_|refine aD rfl k2 ?_|refine aD rfl k3 ?_|refine zR rfl ?_)
    exact⟨rfl,_,rfl,_,rfl,uR 170⟩
theorem KI {α:Type} {q:α→Bool} {l:List α} {i:Nat} {x:α} (h:l[i]? =some x):(l.take (i+1)).filter q=(l.take i).filter q++(if q x=true then [x] else []):=by
 rw[b7 h,List.filter_append]
 by_cases hq:q x=true<;>simp[hq]
theorem yS {l:List Pn} {s:Int}:((l.filter fun x=>!cG s x).length=l.length)↔l.any (cG s)=false:=by
 rw[List.any_eq_false]
 constructor
 ·intro h x hx
  have:=List.length_filter_eq_length_iff.1 h x hx
  simpa using this
 ·intro h
  rw[List.length_filter_eq_length_iff]
  intro x hx
  have:=h x hx
  simpa using this
theorem MO (l:List Pn) (s:Int) (hl:l.length < 100000):aN Tryz.prog 158 [bI l .none,.int .i64 s] (NP (gF l s)):=by
 refine aT (aZ (bP l (.inl rfl)) aB) (n7 _) ?_
 refine aC aF Tryz.func158 rfl (by decide) (by simp[Tryz.f158]) ?_
 have la:=aU Pn.av l
 have k1:=pX l (by omega)
 have hcp:=bP l (.inl rfl)
 unfold gF
 unfold iT
 unfold bI at*
 cases h1:gW dP Pn.session none l&&decide (l.length≤50)
 ·rw[h1] at k1
  repeat' (first|refine zA rfl ?_|refine aA ?_|refine aJ rfl ?_|refine aD rfl k1 ?_)
  exact⟨rfl,_,rfl,_,rfl,uR 1⟩
 ·rw[h1] at k1
  rw[if_pos rfl]
  repeat' (first|refine zA rfl ?_|refine aA ?_|refine aJ rfl ?_|refine aD rfl k1 ?_)
  refine aX l.length (fun i f N=>∃g,N=tokM g∧f=⟨[(0,.sl 2 (l.map Pn.av) .none),(1,.int .i64 s),(6,.sl 2 (((l.take i).filter fun x=>!cG s x).map Pn.av) (.tok 0 g)),(7,.int .i64 (i:Int))],[]⟩) (Nat.zero_le _) ⟨0,rfl,rfl⟩ ((aM.tok 6 rfl (sz':=2) (.inr rfl)).trans (aM.le ?_ (cK rfl rfl))) ?_
  ·skip
   repeat (refine AF.le_cons rfl ?_)
   exact AF.le_nil rfl
  rintro i f N hi ⟨g,rfl,rfl⟩
  have lt:=aU Pn.av ((l.take i).filter fun x=>!cG s x)
  have lt2:((l.take i).filter fun x=>!cG s x).length≤i:=Nat.le_trans (List.length_filter_le _ _) (by rw[List.length_take];omega)
  by_cases g1:i < l.length
  ·have d1:decide ((i:Int) < (l.length:Int))=true:=decide_eq_true (by omega)
   have hx:l[i]? =some l[i]:=List.getElem?_eq_getElem g1
   have fi:=aQ (i:=i) (by omega)
   have hf:=KI (q:=fun x=>!cG s x) hx
   generalize l[i]=x at hx hf
   by_cases h3:x.session=s
   ·have d3:(!decide (x.session=s))=false:=by simp[h3]
    have e:(l.take (i+1)).filter (fun x=>!cG s x)=(l.take i).filter fun x=>!cG s x:=by rw[hf,if_neg (by simp[cG,h3])];simp
    repeat' (first|refine zB rfl (by first|exact d1|exact d3) ?_|refine zI rfl (by first|exact la|exact fi) ?_|refine zA rfl ?_|refine aA ?_|refine aJ rfl ?_|refine zX rfl (c7 hx) ?_)
    refine⟨g1,_,_,⟨g,rfl,rfl⟩,aM.le ?_ (aI.le_refl _)⟩
    rw[e]
    repeat (refine AF.le_cons rfl ?_)
    exact AF.le_nil rfl
   ·have d3:(!decide (x.session=s))=true:=by simp[h3]
    have e:(l.take (i+1)).filter (fun x=>!cG s x)=((l.take i).filter fun x=>!cG s x)++[x]:=by rw[hf,if_pos (by simp[cG,h3])]
    repeat' (first|refine zB rfl (by first|exact d1|exact d3) ?_|refine zI rfl (by first|exact la|exact fi) ?_|refine zA rfl ?_|refine aA ?_|refine aJ rfl ?_|refine zX rfl (c7 hx) ?_|refine zR rfl ?_|refine zP rfl rfl ?_)
    refine⟨g1,⟨[(0,.sl 2 (l.map Pn.av) .none),(1,.int .i64 s),(6,.sl 2 (((l.take (i+1)).filter fun x=>!cG s x).map Pn.av) (.tok 0 (g+1))),(7,.int .i64 ((i+1:Nat):Int))],[]⟩,tokM (g+1),⟨g+1,rfl,rfl⟩,aM.cut (k:=1) (l:=(tokM (g+1)).objs) (Nat.zero_le 1) (Nat.le_refl 1) rfl ⟨?_,?_,?_,?_,trivial⟩ ⟨by decide,rfl,trivial⟩⟩
    ·exact aH.of_closed hcp
    ·exact aH.of_closed aB
    ·rw[e]
     rw[List.map_append]
     refine aH.tok (by decide) ?_
     intro y hy c hc
     have:∃n:Pn,y=n.av:=by
      rcases List.mem_append.1 hy with hy|hy
      ·obtain⟨n,_,rfl⟩:=List.mem_map.1 hy
       exact⟨n,rfl⟩
      ·simp at hy
       exact⟨x,hy⟩
     obtain⟨n,rfl⟩:=this
     exact nR n c hc
    ·exact aH.of_closed aB
  ·have d1:decide ((i:Int) < (l.length:Int))=false:=decide_eq_false (by omega)
   obtain rfl:i=l.length:=by omega
   rw[List.take_length] at lt lt2 ⊢
   cases h5:l.any (cG s)
   ·have d5:decide ((((l.filter fun x=>!cG s x).length:Nat):Int)=(l.length:Int))=true:=decide_eq_true (by rw[yS.2 h5])
    repeat' (first|refine zB rfl (by first|exact d1|exact d5) ?_|refine zI rfl (by first|exact la|exact lt) ?_|refine zA rfl ?_|refine aA ?_|refine aJ rfl ?_)
    exact⟨rfl,_,rfl,_,rfl,uR 80⟩
   ·have d5:decide ((((l.filter fun x=>!cG s x).length:Nat):Int)=(l.length:Int))=false:=decide_eq_false (fun h=>by have:=yS.1 (Int.ofNat.inj h);rw[h5] at this;cases this)
    have hcl:=bP (l.filter fun x=>!cG s x) (t:=.none) (.inl rfl)
    rw[if_pos rfl]
    unfold bI at hcl
    repeat' (first|refine zB rfl (by first|exact d1|exact d5) ?_|refine zI rfl (by first|exact la|exact lt) ?_|refine zA rfl ?_|refine aA ?_|refine aJ rfl ?_)
    refine⟨rfl,_,rfl,_,rfl,aH.tup2 ?_ (aH.of_closed aB)⟩
    exact aH.untag hcl
end Go.Proofs.YthnhbmlefiafaaaGreatDoor
namespace Go.Proofs.YthnhbmlefiafaaaGreatDoor
open Go.Ab
def eV (c:Int) (p:Sn):Bool:=decide (p.client=c)
def iE (c:Int) (p:Sn):Bool:=decide (p.client < c)
def sn0:Sn:=⟨0,0,0,0⟩
def nZ (l:List Sn) (c:Int):Sn:=(l.find? (eV c)).getD sn0
def jP (l:List Sn) (c:Int):Int:=(nZ l c).seq
def dK (x:Int×Int):AV:=.agg [.int .i64 x.1,.int .i64 x.2]
def lB (l:List Sn) (c n:Int):(Int×Int)×Int:=if jP l c < n then ((0,0),0) else if n=jP l c then (((nZ l c).code,(nZ l c).n),1) else ((0,0),2)
def IA (z:(Int×Int)×Int):AV:=.tup [dK z.1,.int .i64 z.2]
theorem YJ (p:Sn) (c:Int):aN Tryz.prog 97 [p.av,.int .i64 c] (.bool (eV c p)):=by
 intro M
 refine aC aF Tryz.func97 rfl (by decide) (by simp[Tryz.f97]) ?_
 unfold eV
 repeat' (first|refine zA rfl ?_|refine aA ?_|refine aJ rfl ?_)
 exact⟨rfl,_,rfl,rfl,rfl⟩
theorem R9 (p:Sn) (c:Int):aN Tryz.prog 99 [p.av,.int .i64 c] (.bool (iE c p)):=by
 intro M
 refine aC aF Tryz.func99 rfl (by decide) (by simp[Tryz.f99]) ?_
 unfold iE
 repeat' (first|refine zA rfl ?_|refine aA ?_|refine aJ rfl ?_)
 exact⟨rfl,_,rfl,rfl,rfl⟩
theorem L2 (p:Sn) (c:Int):aN Tryz.prog 98 [p.av,.int .i64 c] (.bool (!iE c p)):=by
 intro M
 refine aC aF Tryz.func98 rfl (by decide) (by simp[Tryz.f98]) ?_
 have k:=R9 p c
 repeat' (first|refine zA rfl ?_|refine aA ?_|refine aJ rfl ?_|refine aD rfl k ?_)
 exact⟨rfl,_,rfl,rfl,rfl⟩
theorem H5 {α:Type} (l:List α) (p:α→Bool):l.findIdx p≤l.length:=List.findIdx_le_length
theorem wE {α:Type} {l:List α} {p:α→Bool} {i:Nat} {x:α} (hn:∀(j:Nat) y,j < i→l[j]? =some y→p y=false) (hx:l[i]? =some x) (hp:p x=true):l.findIdx p=i:=by
 obtain⟨hi,rfl⟩:=List.getElem?_eq_some_iff.1 hx
 rw[List.findIdx_eq hi]
 exact⟨hp,fun j hj=>hn j _ hj (List.getElem?_eq_getElem (by omega))⟩
theorem BR {α:Type} {l:List α} {p:α→Bool} (hn:∀(j:Nat) y,j < l.length→l[j]? =some y→p y=false):l.findIdx p=l.length:=by
 rw[List.findIdx_eq_length]
 intro x hx
 obtain⟨j,hj⟩:=List.mem_iff_getElem?.1 hx
 exact hn j x (List.getElem?_eq_some_iff.1 hj).1 hj
theorem uM (l:List Sn) (tg:eI) (hl:l.length < 1000000) (c:Int) (g:FuncId) (p:Sn→Bool) (hp:∀x,aN Tryz.prog g [x.av,.int .i64 c] (.bool (p x))):aN Tryz.prog 96 [bU l tg,.int .i64 c,.fn (.func g) [] []] (.int .i64 (l.findIdx p:Int)):=by
 intro M
 refine aC aF Tryz.func96 rfl (by decide) (by simp[Tryz.f96]) ?_
 have la:=aU Sn.av l
 unfold bU
 repeat' (first|refine zA rfl ?_|refine aA ?_|refine aJ rfl ?_)
 refine aX l.length (fun i f N=>N=M∧(∀(j:Nat) y,j < i→l[j]? =some y→p y=false)∧f=⟨[(0,.sl 4 (l.map Sn.av) tg),(1,.int .i64 c),(2,.fn (.func g) [] []),(7,.int .i64 (i:Int))],[]⟩) (Nat.zero_le _) ⟨rfl,(fun j y hj=>absurd hj (Nat.not_lt_zero _)),rfl⟩ (aM.le ?_ (aI.le_refl _)) ?_
 ·skip
  repeat (refine AF.le_cons rfl ?_)
  exact AF.le_nil rfl
 rintro i f N hi ⟨rfl,hno,rfl⟩
 by_cases g1:i < l.length
 ·have d1:decide ((i:Int) < (l.length:Int))=true:=decide_eq_true (by omega)
  have hx:l[i]? =some l[i]:=List.getElem?_eq_getElem g1
  have fi:=aQ (i:=i) (by omega)
  generalize l[i]=x at hx
  have hk:=hp x
  cases hpx:p x
  ·rw[hpx] at hk
   repeat' (first|refine zB rfl d1 ?_|refine zI rfl (by first|exact fi|exact la) ?_|refine zA rfl ?_|refine aA ?_|refine aJ rfl ?_|refine aD rfl hk ?_|refine zX rfl (c7 hx) ?_)
   refine⟨g1,_,_,⟨rfl,?_,rfl⟩,aM.le ?_ (aI.le_refl _)⟩
   ·intro j y hj hy
    by_cases hji:j=i
    ·subst hji
     rw[hx] at hy
     cases hy
     exact hpx
    ·exact hno j y (by omega) hy
   ·skip
    repeat (refine AF.le_cons rfl ?_)
    exact AF.le_nil rfl
  ·rw[hpx] at hk
   rw[wE hno hx hpx]
   repeat' (first|refine zB rfl d1 ?_|refine zI rfl (by first|exact fi|exact la) ?_|refine zA rfl ?_|refine aA ?_|refine aJ rfl ?_|refine aD rfl hk ?_|refine zX rfl (c7 hx) ?_)
   exact⟨rfl,_,rfl,rfl,rfl⟩
 ·have d1:decide ((i:Int) < (l.length:Int))=false:=decide_eq_false (by omega)
  obtain rfl:i=l.length:=by omega
  rw[BR hno]
  repeat' (first|refine zB rfl d1 ?_|refine zI rfl la ?_|refine zA rfl ?_|refine aA ?_|refine aJ rfl ?_)
  exact⟨rfl,_,rfl,rfl,rfl⟩
def dfA (l:List Sn) (c:Int):AV:=.tup [(nZ l c).av,.bool (l.any (eV c))]
theorem OD (l:List Sn) (c:Int):aP (dfA l c):=aW (aZ (kJ _) aL)
theorem yU {α:Type} (l:List α) (p:α→Bool):(l.any p=false∧l.findIdx p=l.length∧l.find? p=none)∨∃(i:Nat) (x:α),i < l.length∧l[i]? =some x∧p x=true∧(∀(j:Nat) y,j < i→l[j]? =some y→p y=false)∧l.findIdx p=i∧l.find? p=some x∧l.any p=true:=by
 rcases iW l p with ⟨h1,_,h2⟩|⟨i,x,h1,h2,h3,_,h4,h5⟩
 ·refine .inl ⟨h1,?_,h2⟩
  rw[List.findIdx_eq_length]
  intro x hx
  rw[List.any_eq_false] at h1
  simpa using h1 x hx
 ·exact .inr ⟨i,x,(List.getElem?_eq_some_iff.1 h1).1,h1,h2,h3,wE h3 h1 h2,h4,h5⟩
theorem A7 (l:List Sn) (tg:eI) (htg:tg=.none∨tg=.full) (hl:l.length < 1000000) (c:Int):aN Tryz.prog 86 [bU l tg,.int .i64 c] (dfA l c):=by
 refine aT (aZ (bQ l htg) aB) (OD l c) ?_
 refine aC aF Tryz.func86 rfl (by decide) (by simp[Tryz.f86]) ?_
 have la:=aU Sn.av l
 have k:=uM l tg hl c 97 (eV c) (fun x=>YJ x c)
 unfold dfA nZ
 unfold bU at*
 rcases yU l (eV c) with ⟨e1,e2,e3⟩|⟨i,x,hi,hx,_,_,e2,e3,e1⟩
 ·rw[e2] at k
  rw[e1,e3]
  have d1:decide ((l.length:Int)=(l.length:Int))=true:=by simp
  repeat' (first|refine zB rfl d1 ?_|refine zI rfl la ?_|refine zA rfl ?_|refine aA ?_|refine aJ rfl ?_|refine aD rfl k ?_)
  exact⟨rfl,_,rfl,_,rfl,aH.of_closed (aW (aZ (kJ sn0) aL))⟩
 ·rw[e2] at k
  rw[e1,e3]
  have d1:decide ((i:Int)=(l.length:Int))=false:=decide_eq_false (by omega)
  repeat' (first|refine zB rfl d1 ?_|refine zI rfl la ?_|refine zA rfl ?_|refine aA ?_|refine aJ rfl ?_|refine aD rfl k ?_|refine zX rfl (c7 hx) ?_)
  exact⟨rfl,_,rfl,_,rfl,aH.of_closed (aW (aZ (kJ x) aL))⟩
theorem VE (l:List Sn) (tg:eI) (htg:tg=.none∨tg=.full) (hl:l.length < 1000000) (c:Int):aN Tryz.prog 95 [bU l tg,.int .i64 c] (.int .i64 (jP l c)):=by
 refine aT (aZ (bQ l htg) aB) (aB) ?_
 refine aC aF Tryz.func95 rfl (by decide) (by simp[Tryz.f95]) ?_
 have k:=A7 l tg htg hl c
 unfold jP
 unfold dfA at k
 unfold bU at*
 generalize nZ l c=z at*
 repeat' (first|refine zA rfl ?_|refine aA ?_|refine aJ rfl ?_|refine aD rfl k ?_)
 exact⟨rfl,_,rfl,_,rfl,aH.of_closed aB⟩
theorem dZ (z:(Int×Int)×Int):aP (IA z):=aW (aZ (cP (aZ aB aB)) aB)
theorem WS (l:List Sn) (tg:eI) (htg:tg=.none∨tg=.full) (hl:l.length < 1000000) (c n:Int):aN Tryz.prog 50 [bU l tg,.int .i64 c,.int .i64 n] (IA (lB l c n)):=by
 refine aT (cD (bQ l htg) aB aB) (dZ _) ?_
 refine aC aF Tryz.func50 rfl (by decide) (by simp[Tryz.f50]) ?_
 have k:=A7 l tg htg hl c
 unfold lB jP
 unfold dfA at k
 unfold bU at*
 generalize nZ l c=z at*
 by_cases h1:z.seq < n
 ·have d1:decide (n > z.seq)=true:=decide_eq_true h1
  rw[if_pos h1]
  repeat' (first|refine zB rfl d1 ?_|refine zA rfl ?_|refine aA ?_|refine aJ rfl ?_|refine aD rfl k ?_)
  exact⟨rfl,_,rfl,_,rfl,aH.of_closed (dZ ((0,0),0))⟩
 ·have d1:decide (n > z.seq)=false:=decide_eq_false h1
  rw[if_neg h1]
  by_cases h2:n=z.seq
  ·have d2:decide (n=z.seq)=true:=decide_eq_true h2
   rw[if_pos h2]
   repeat' (first|refine zB rfl (by first|exact d1|exact d2) ?_|refine zA rfl ?_|refine aA ?_|refine aJ rfl ?_|refine aD rfl k ?_)
   exact⟨rfl,_,rfl,_,rfl,aH.of_closed (dZ ((z.code,z.n),1))⟩
  ·have d2:decide (n=z.seq)=false:=decide_eq_false h2
   rw[if_neg h2]
   repeat' (first|refine zB rfl (by first|exact d1|exact d2) ?_|refine zA rfl ?_|refine aA ?_|refine aJ rfl ?_|refine aD rfl k ?_)
   exact⟨rfl,_,rfl,_,rfl,aH.of_closed (dZ ((0,0),2))⟩
theorem vK (l:List Sn) (tg:eI) (hl:l.length < 1000000) (c:Int):aN Tryz.prog 108 [bU l tg,.int .i64 c] (.int .i64 (oQ l (eV c))):=by
 intro M
 refine aC aF Tryz.func108 rfl (by decide) (by simp[Tryz.f108]) ?_
 have la:=aU Sn.av l
 unfold bU
 repeat' (first|refine zA rfl ?_|refine aA ?_|refine aJ rfl ?_)
 refine aX l.length (fun i f N=>N=M∧(∀(j:Nat) y,j < i→l[j]? =some y→eV c y=false)∧f=⟨[(0,.sl 4 (l.map Sn.av) tg),(1,.int .i64 c),(5,.int .i64 (i:Int))],[]⟩) (Nat.zero_le _) ⟨rfl,(fun j y hj=>absurd hj (Nat.not_lt_zero _)),rfl⟩ (aM.le ?_ (aI.le_refl _)) ?_
 ·skip
  repeat (refine AF.le_cons rfl ?_)
  exact AF.le_nil rfl
 rintro i f N hi ⟨rfl,hinv,rfl⟩
 by_cases h1:i < l.length
 ·have d1:decide ((i:Int) < (l.length:Int))=true:=by simp;omega
  have hx:l[i]? =some l[i]:=List.getElem?_eq_getElem h1
  have fi:=aQ (i:=i) (by omega)
  have ht:=b7 hx
  have hm:=List.getElem_mem h1
  generalize l[i]=x at hx ht hm
  by_cases h2:x.client=c
  ·have d2:decide (x.client=c)=true:=decide_eq_true h2
   rw[pM hinv hx (by simp[eV,h2])]
   repeat' (first|refine zB rfl (by first|exact d1|exact d2) ?_|refine zI rfl la ?_|refine zA rfl ?_|refine aA ?_|refine aJ rfl ?_|refine zX rfl (c7 hx) ?_)
   exact⟨rfl,_,rfl,rfl,rfl⟩
  ·have d2:decide (x.client=c)=false:=decide_eq_false h2
   repeat' (first|refine zB rfl (by first|exact d1|exact d2) ?_|refine zI rfl (by first|exact la|exact fi) ?_|refine zA rfl ?_|refine aA ?_|refine aJ rfl ?_|refine zX rfl (c7 hx) ?_)
   refine⟨h1,_,_,⟨rfl,?_,rfl⟩,aM.le ?_ (aI.le_refl _)⟩
   ·intro j y hj hy
    by_cases hji:j=i
    ·subst hji
     rw[hx] at hy
     cases hy
     simp[eV,h2]
    ·exact hinv j y (by omega) hy
   ·skip
    repeat (refine AF.le_cons rfl ?_)
    exact AF.le_nil rfl
 ·have d1:decide ((i:Int) < (l.length:Int))=false:=by simp;omega
  obtain rfl:i=l.length:=by omega
  rw[l6 fun j y hy=>hinv j y (List.getElem?_eq_some_iff.1 hy).1 hy]
  repeat' (first|refine zB rfl d1 ?_|refine zI rfl la ?_|refine zA rfl ?_|refine aA ?_|refine aJ rfl ?_)
  exact⟨rfl,_,rfl,rfl,rfl⟩
theorem CP (l:List Sn) (tg:eI) (hl:l.length < 1000000) (c:Int):aN Tryz.prog 107 [bU l tg,.int .i64 c] (.int .i64 (jP l c)):=by
 intro M
 refine aC aF Tryz.func107 rfl (by decide) (by simp[Tryz.f107]) ?_
 have la:=aU Sn.av l
 have k:=vK l tg hl c
 unfold jP nZ
 unfold bU at*
 rcases iW l (eV c) with ⟨e1,e2,e3⟩|⟨i,x,hx,_,_,e2,e3,e1⟩
 ·rw[e2] at k
  rw[e3]
  have d1:decide ((-1:Int) < 0)=true:=rfl
  repeat' (first|refine zB rfl d1 ?_|refine zA rfl ?_|refine aA ?_|refine aJ rfl ?_|refine aD rfl k ?_)
  exact⟨rfl,_,rfl,rfl,rfl⟩
 ·rw[e2] at k
  rw[e3]
  have d1:decide ((i:Int) < 0)=false:=decide_eq_false (by omega)
  repeat' (first|refine zB rfl d1 ?_|refine zA rfl ?_|refine aA ?_|refine aJ rfl ?_|refine aD rfl k ?_|refine zX rfl (c7 hx) ?_)
  exact⟨rfl,_,rfl,rfl,rfl⟩
theorem RC (l:List Sn) (tg:eI) (htg:tg=.none∨tg=.full) (hl:l.length < 1000000) (c n:Int):aN Tryz.prog 56 [bU l tg,.int .i64 c,.int .i64 n] (IA (lB l c n)):=by
 refine aT (cD (bQ l htg) aB aB) (dZ _) ?_
 refine aC aF Tryz.func56 rfl (by decide) (by simp[Tryz.f56]) ?_
 have la:=aU Sn.av l
 have k:=vK l tg hl c
 have kl:=CP l tg hl c
 unfold lB
 have ez:jP l c=(nZ l c).seq:=rfl
 unfold nZ at*
 unfold bU at*
 generalize jP l c=z at*
 by_cases h1:z < n
 ·have d1:decide (n > z)=true:=decide_eq_true h1
  rw[if_pos h1]
  repeat' (first|refine zB rfl d1 ?_|refine zA rfl ?_|refine aA ?_|refine aJ rfl ?_|refine aD rfl kl ?_)
  exact⟨rfl,_,rfl,_,rfl,aH.of_closed (dZ ((0,0),0))⟩
 ·have d1:decide (n > z)=false:=decide_eq_false h1
  rw[if_neg h1]
  rcases iW l (eV c) with ⟨e1,e2,e3⟩|⟨i,x,hx,_,_,e2,e3,e1⟩
  ·rw[e2] at k
   rw[e3]
   have d3:decide ((-1:Int)≥0)=false:=rfl
   by_cases h2:n=z
   ·have d2:decide (n=z)=true:=decide_eq_true h2
    rw[if_pos h2]
    repeat' (first|refine zB rfl (by first|exact d1|exact d2|exact d3) ?_|refine zA rfl ?_|refine aA ?_|refine aJ rfl ?_|refine aD rfl k ?_|refine aD rfl kl ?_)
    exact⟨rfl,_,rfl,_,rfl,aH.of_closed (dZ ((0,0),1))⟩
   ·have d2:decide (n=z)=false:=decide_eq_false h2
    rw[if_neg h2]
    repeat' (first|refine zB rfl (by first|exact d1|exact d2|exact d3) ?_|refine zA rfl ?_|refine aA ?_|refine aJ rfl ?_|refine aD rfl k ?_|refine aD rfl kl ?_)
    exact⟨rfl,_,rfl,_,rfl,aH.of_closed (dZ ((0,0),2))⟩
  ·rw[e2] at k
   rw[e3]
   have d3:decide ((i:Int)≥0)=true:=decide_eq_true (by omega)
   by_cases h2:n=z
   ·have d2:decide (n=z)=true:=decide_eq_true h2
    rw[if_pos h2]
    repeat' (first|refine zB rfl (by first|exact d1|exact d2|exact d3) ?_|refine zA rfl ?_|refine aA ?_|refine aJ rfl ?_|refine aD rfl k ?_|refine aD rfl kl ?_|refine zX rfl (c7 hx) ?_)
    exact⟨rfl,_,rfl,_,rfl,aH.of_closed (dZ ((x.code,x.n),1))⟩
   ·have d2:decide (n=z)=false:=decide_eq_false h2
    rw[if_neg h2]
    repeat' (first|refine zB rfl (by first|exact d1|exact d2) ?_|refine zA rfl ?_|refine aA ?_|refine aJ rfl ?_|refine aD rfl k ?_|refine aD rfl kl ?_)
    exact⟨rfl,_,rfl,_,rfl,aH.of_closed (dZ ((0,0),2))⟩
def iZ:List Sn→Sn→List Sn
 |[],s=>[s]
 |y::r,s=>if y.client < s.client then y::iZ r s else if y.client=s.client then s::r else s::y::r
theorem pL:∀{l:List Sn} {s:Sn} {i k:Nat},i≤l.length→(∀(j:Nat) d,j < i→l[j]? =some d→d.client < s.client)→(k=i+1∧(∃d,l[i]? =some d∧d.client=s.client)∨k=i∧∀d,l[i]? =some d→¬d.client < s.client∧d.client≠s.client)→iZ l s=l.take i++s::l.drop k
 |[],s,i,k,hi,_,h=>by
  obtain rfl:i=0:=by simpa using hi
  rcases h with ⟨_,d,hd,_⟩|⟨rfl,_⟩
  ·simp at hd
  ·rfl
 |y::r,s,0,k,_,_,h=>by
  show (if y.client < s.client then _ else if y.client=s.client then _ else _)=_
  rcases h with ⟨rfl,d,hd,he⟩|⟨rfl,h⟩
  ·cases hd
   rw[if_neg (by omega),if_pos he]
   rfl
  ·obtain⟨h1,h2⟩:=h y rfl
   rw[if_neg h1,if_neg h2]
   rfl
 |y::r,s,i+1,k,hi,h1,h=>by
  have h3:∃k',k=k'+1∧(k'=i+1∧(∃d,r[i]? =some d∧d.client=s.client)∨k'=i∧∀d,r[i]? =some d→¬d.client < s.client∧d.client≠s.client):=by
   rcases h with ⟨rfl,d,hd,he⟩|⟨rfl,h⟩
   ·exact⟨i+1,rfl,.inl ⟨rfl,d,by simpa using hd,he⟩⟩
   ·exact⟨i,rfl,.inr ⟨rfl,fun d hd=>h d (by simpa using hd)⟩⟩
  obtain⟨k',rfl,h3⟩:=h3
  show (if y.client < s.client then _ else _)=_
  rw[if_pos (h1 0 y (Nat.zero_lt_succ _) rfl),pL (i:=i) (Nat.le_of_succ_le_succ hi) (fun j d hj hd=>h1 (j+1) d (Nat.succ_lt_succ hj) (by simpa using hd)) h3]
  rfl
def nG (l:List Sn) (s:Sn):List Sn×Int:=if (lS l&&fB s)=true then (if s.seq≤jP l s.client then ([],180) else if l.any (eV s.client)=false∧50≤l.length then ([],2) else (iZ l s,0)) else ([],1)
def saA (z:List Sn×Int):AV:=.tup [bU z.1 .none,.int .i64 z.2]
theorem zH (z:List Sn×Int):aP (saA z):=aW (aZ (bQ _ (.inl rfl)) aB)
theorem FD {k:Nat} (n:Int):aH k (.tup [.sl 0 [] .full,.int .i64 n]) (saA ([],n)):=aH.tup2 aH.nil (aH.of_closed aB)
theorem AH (l:List Sn) (c:Sn) (i k:Nat):(l.take i++c::l.drop k).map Sn.av=[]++(l.take i).map Sn.av++[c.av]++(l.drop k).map Sn.av:=by simp
theorem UF (l:List Sn) (s:Sn) (hl:l.length < 100000):aN Tryz.prog 58 [bU l .none,s.av] (saA (nG l s)):=by
 refine aT (aZ (bQ l (.inl rfl)) (kJ s)) (zH _) ?_
 refine aC aF Tryz.func58 rfl (by decide) (by simp[Tryz.f58]) ?_
 have la:=aU Sn.av l
 have k1:=z8 l (by omega)
 have k2:=II s
 have k3:=CP l .none (by omega) s.client
 have k4:=vK l .none (by omega) s.client
 unfold nG
 unfold lS
 unfold bU at*
 cases h1:gW fB Sn.client none l&&decide (l.length≤50)
 ·rw[h1] at k1
  repeat' (first|refine zA rfl ?_|refine aA ?_|refine aJ rfl ?_|refine aD rfl k1 ?_)
  exact⟨rfl,_,rfl,_,rfl,FD 1⟩
 ·rw[h1] at k1
  cases h2:fB s
  ·rw[h2] at k2
   repeat' (first|refine zA rfl ?_|refine aA ?_|refine aJ rfl ?_|refine aD rfl k1 ?_|refine aD rfl k2 ?_)
   exact⟨rfl,_,rfl,_,rfl,FD 1⟩
  ·rw[h2] at k2
   rw[if_pos (by rfl)]
   by_cases h3:s.seq≤jP l s.client
   ·have d3:decide (s.seq≤jP l s.client)=true:=decide_eq_true h3
    rw[if_pos h3]
    repeat' (first|refine zB rfl d3 ?_|refine zA rfl ?_|refine aA ?_|refine aJ rfl ?_|refine aD rfl k1 ?_|refine aD rfl k2 ?_|refine aD rfl k3 ?_|refine aO mixed [2,0,1,3,4,5,6] [.R,.R,.P,.R,.R,.P,.P] rfl rfl (by kernel_rfl) ?_)
    exact⟨rfl,_,rfl,_,rfl,FD 180⟩
   ·have d3:decide (s.seq≤jP l s.client)=false:=decide_eq_false h3
    rw[if_neg h3]
    have d5:∃b4:Bool,decide (oQ l (eV s.client) < 0)=b4∧(b4=true→l.any (eV s.client)=false)∧(b4=false→l.any (eV s.client)=true):=by
     rcases iW l (eV s.client) with ⟨e1,e2,e3⟩|⟨i,x,hx,_,_,e2,e3,e1⟩
     ·exact⟨true,by rw[e2];rfl,fun _=>e1,fun h=>by cases h⟩
     ·exact⟨false,by rw[e2];exact decide_eq_false (by omega),fun h=>(by cases h),fun _=>e1⟩
    obtain⟨b4,d4,d5,d6⟩:=d5
    by_cases h6:l.any (eV s.client)=false∧50≤l.length
    ·rw[if_pos h6]
     obtain rfl:b4=true:=by
      cases b4
      ·rw[d6 rfl] at h6
       cases h6.1
      ·rfl
     have d7:decide ((l.length:Int)≥50)=true:=decide_eq_true (by omega)
     repeat' (first|refine zB rfl (by first|exact d3|exact d4|exact d7) ?_|refine zI rfl la ?_|refine zA rfl ?_|refine aA ?_|refine aJ rfl ?_|refine aD rfl k1 ?_|refine aD rfl k2 ?_|refine aD rfl k3 ?_|refine aD rfl k4 ?_|refine aO mixed [2,0,1,3,4,5,6] [.R,.R,.P,.R,.R,.P,.P] rfl rfl (by kernel_rfl) ?_)
     exact⟨rfl,_,rfl,_,rfl,FD 2⟩
    ·rw[if_neg h6]
     have d7:b4=true→decide ((l.length:Int)≥50)=false:=fun h=>decide_eq_false fun h8=>h6 ⟨d5 h,by omega⟩
     cases b4
     all_goals
      try have d7:=d7 rfl
      repeat' (first|refine zB rfl (by first|exact d3|exact d4|exact d7) ?_|refine zI rfl la ?_|refine zA rfl ?_|refine aA ?_|refine aJ rfl ?_|refine aD rfl k1 ?_|refine aD rfl k2 ?_|refine aD rfl k3 ?_|refine aD rfl k4 ?_|refine aO mixed [2,0,1,3,4,5,6] [.R,.R,.P,.R,.R,.P,.P] rfl rfl (by kernel_rfl) ?_)
      refine aX l.length (fun i f N=>N=⟨0,[]⟩∧(∀(j:Nat) d,j < i→l[j]? =some d→d.client < s.client)∧f=⟨[(0,.sl 4 (l.map Sn.av) .none),(3,.ref s.av.cells),(6,.int .i64 (i:Int))],[]⟩) (Nat.zero_le _) ⟨rfl,(fun j d hj=>absurd hj (Nat.not_lt_zero _)),rfl⟩ (aM.le ?_ (aI.le_refl _)) ?_
      ·skip
       repeat (refine AF.le_cons rfl ?_)
       exact AF.le_nil rfl
      rintro i f N hi ⟨rfl,hlt,rfl⟩
      by_cases g1:i < l.length
      ·have d1:decide ((i:Int) < (l.length:Int))=true:=decide_eq_true (by omega)
       have hx:l[i]? =some l[i]:=List.getElem?_eq_getElem g1
       have fi:=aQ (i:=i) (by omega)
       generalize l[i]=x at hx
       by_cases g3:x.client < s.client
       ·have d8:decide (x.client < s.client)=true:=decide_eq_true g3
        repeat' (first|refine zB rfl (by first|exact d1|exact d8) ?_|refine zI rfl (by first|exact la|exact fi) ?_|refine zA rfl ?_|refine aA ?_|refine aJ rfl ?_|refine zX rfl (c7 hx) ?_|refine aO mixed [0,1,2,3,4,5,6,7,8,9,10,11,12,13] [.P,.P,.P,.P,.P,.P,.P,.R,.R,.R,.R,.R,.P,.P] rfl rfl (by kernel_rfl) ?_)
        refine⟨g1,_,_,⟨rfl,?_,rfl⟩,aM.le ?_ (aI.le_refl _)⟩
        ·intro j d hj hd
         by_cases hji:j=i
         ·subst hji
          rw[hx] at hd
          cases hd
          exact g3
         ·exact hlt j d (by omega) hd
        ·skip
         repeat (refine AF.le_cons rfl ?_)
         exact AF.le_nil rfl
       ·have d8:decide (x.client < s.client)=false:=decide_eq_false g3
        by_cases g4:x.client=s.client
        ·have d9:decide (x.client=s.client)=true:=decide_eq_true g4
         have e:=pL hi hlt (.inl ⟨rfl,x,hx,g4⟩)
         have hcl:=bQ (iZ l s) (t:=.none) (.inl rfl)
         unfold bU at hcl
         repeat' (first|refine zB rfl (by first|exact d1|exact d8|exact d9) ?_|refine zI rfl (by first|exact la|exact fi) ?_|refine zA rfl ?_|refine aA ?_|refine aJ rfl ?_|refine zX rfl (c7 hx) ?_|refine i5 aF rfl (HZ (Nat.le_of_lt g1)) ?_|refine i5 aF rfl (q7 g1) ?_|refine zR rfl ?_|refine zP rfl rfl ?_|refine zQ rfl ?_|refine aO mixed [0,1,2,3,4,5,6,7,8,9,10,11,12,13] [.P,.P,.P,.P,.P,.P,.P,.R,.R,.R,.R,.R,.P,.P] rfl rfl (by kernel_rfl) ?_)
         refine⟨rfl,_,rfl,_,rfl,aH.tup2 ?_ (aH.of_closed aB)⟩
         show aH _ _ (.sl 4 ((iZ l s).map Sn.av) .none)
         rw[e,AH] at hcl ⊢
         exact aH.untag hcl
        ·have d9:decide (x.client=s.client)=false:=decide_eq_false g4
         have e:=pL (k:=i) hi hlt (.inr ⟨rfl,fun d hd=>by rw[hx] at hd;cases hd;exact⟨g3,g4⟩⟩)
         have hcl:=bQ (iZ l s) (t:=.none) (.inl rfl)
         unfold bU at hcl
         repeat' (first|refine zB rfl (by first|exact d1|exact d8|exact d9) ?_|refine zI rfl la ?_|refine zA rfl ?_|refine aA ?_|refine aJ rfl ?_|refine zX rfl (c7 hx) ?_|refine i5 aF rfl (HZ (Nat.le_of_lt g1)) ?_|refine i5 aF rfl (q7 (Nat.le_of_lt g1)) ?_|refine zR rfl ?_|refine zP rfl rfl ?_|refine zQ rfl ?_|refine aO mixed [0,1,2,3,4,5,6,7,8,9,10,11,12,13] [.P,.P,.P,.P,.P,.P,.P,.R,.R,.R,.R,.R,.P,.P] rfl rfl (by kernel_rfl) ?_)
         refine⟨rfl,_,rfl,_,rfl,aH.tup2 ?_ (aH.of_closed aB)⟩
         show aH _ _ (.sl 4 ((iZ l s).map Sn.av) .none)
         rw[e,AH] at hcl ⊢
         exact aH.untag hcl
      ·have d1:decide ((i:Int) < (l.length:Int))=false:=decide_eq_false (by omega)
       obtain rfl:i=l.length:=by omega
       have e:=pL (k:=l.length) hi hlt (.inr ⟨rfl,fun d hd=>by simp at hd⟩)
       have hcl:=bQ (iZ l s) (t:=.none) (.inl rfl)
       unfold bU at hcl
       repeat' (first|refine zB rfl d1 ?_|refine zI rfl la ?_|refine zA rfl ?_|refine aA ?_|refine aJ rfl ?_|refine i5 aF rfl (HZ (Nat.le_refl _)) ?_|refine i5 aF rfl (q7 (Nat.le_refl _)) ?_|refine zR rfl ?_|refine zP rfl rfl ?_|refine zQ rfl ?_|refine aO mixed [0,1,2,3,4,5,6,7,8,9,10,11,12,13] [.P,.P,.P,.P,.P,.P,.P,.R,.R,.R,.R,.R,.P,.P] rfl rfl (by kernel_rfl) ?_)
       refine⟨rfl,_,rfl,_,rfl,aH.tup2 ?_ (aH.of_closed aB)⟩
       show aH _ _ (.sl 4 ((iZ l s).map Sn.av) .none)
       rw[e,AH] at hcl ⊢
       exact aH.untag hcl
def PR (z:Sg×(Int×Int)):AV:=.tup [z.1.av,dK z.2]
theorem cE (z:Sg×(Int×Int)):aP (PR z):=aW (aZ (bX _) (cP (aZ aB aB)))
def wO (s:Sg) (o:Oo):Sg×(Int×Int):=if o.at_ < s.mark then (s,(180,0)) else if s.last < o.at_ then (s,(181,0)) else if (oV s.pins ⟨o.session,o.at_⟩).2=0 then ({s with pins:=(oV s.pins ⟨o.session,o.at_⟩).1},(0,o.at_)) else (s,((oV s.pins ⟨o.session,o.at_⟩).2,0))
def wP (s:Sg) (o:Oo):Sg×(Int×Int):=if (gF s.pins o.session).2=0 then ({s with pins:=(gF s.pins o.session).1},(0,PL s.pins o.session)) else (s,((gF s.pins o.session).2,0))
theorem VR (s:Sg) (o:Oo) (hp:s.pins.length < 100000):aN Tryz.prog 110 [s.av,o.av] (PR (wO s o)):=by
 refine aT (aZ (bX s) (cH o)) (cE _) ?_
 refine aC aF Tryz.func110 rfl (by decide) (by simp[Tryz.f110]) ?_
 have k:=ZI s.pins ⟨o.session,o.at_⟩ hp
 unfold wO
 unfold NP bI at k
 generalize oV s.pins ⟨o.session,o.at_⟩=z at*
 obtain⟨l,e⟩:=z
 by_cases h1:o.at_ < s.mark
 ·have d1:decide (o.at_ < s.mark)=true:=decide_eq_true h1
  rw[if_pos h1]
  repeat' (first|refine zB rfl d1 ?_|refine dV 2 aF rfl ?_|refine zA rfl ?_|refine aA ?_|refine aJ rfl ?_)
  exact⟨rfl,_,rfl,_,rfl,aH.of_closed (cE (s,(180,0)))⟩
 ·have d1:decide (o.at_ < s.mark)=false:=decide_eq_false h1
  rw[if_neg h1]
  by_cases h2:s.last < o.at_
  ·have d2:decide (o.at_ > s.last)=true:=decide_eq_true h2
   rw[if_pos h2]
   repeat' (first|refine zB rfl (by first|exact d1|exact d2) ?_|refine dV 2 aF rfl ?_|refine zA rfl ?_|refine aA ?_|refine aJ rfl ?_)
   exact⟨rfl,_,rfl,_,rfl,aH.of_closed (cE (s,(181,0)))⟩
  ·have d2:decide (o.at_ > s.last)=false:=decide_eq_false h2
   rw[if_neg h2]
   by_cases h3:e=0
   ·have d3:(!decide (e=0))=false:=by simp[h3]
    rw[if_pos h3]
    repeat' (first|refine zB rfl (by first|exact d1|exact d2|exact d3) ?_|refine dV 2 aF rfl ?_|refine zA rfl ?_|refine aA ?_|refine aJ rfl ?_|refine aD rfl k ?_|refine aO mixed [1,2,3,0,4,5] [.R,.P,.P,.P,.E,.E] rfl rfl (by kernel_rfl) ?_)
    exact⟨rfl,_,rfl,_,rfl,aH.of_closed (cE ({s with pins:=l},(0,o.at_)))⟩
   ·have d3:(!decide (e=0))=true:=by simp[h3]
    rw[if_neg h3]
    repeat' (first|refine zB rfl (by first|exact d1|exact d2|exact d3) ?_|refine dV 2 aF rfl ?_|refine zA rfl ?_|refine aA ?_|refine aJ rfl ?_|refine aD rfl k ?_)
    exact⟨rfl,_,rfl,_,rfl,aH.of_closed (cE (s,(e,0)))⟩
theorem ZM (s:Sg) (o:Oo) (hp:s.pins.length < 100000):aN Tryz.prog 111 [s.av,o.av] (PR (wP s o)):=by
 refine aT (aZ (bX s) (cH o)) (cE _) ?_
 refine aC aF Tryz.func111 rfl (by decide) (by simp[Tryz.f111]) ?_
 have k:=MO s.pins o.session hp
 have k0:=P9 s.pins .none (by omega) o.session
 unfold wP
 unfold NP bI at k
 unfold pfA bI at k0
 generalize gF s.pins o.session=z at*
 generalize PL s.pins o.session=v at*
 obtain⟨l,e⟩:=z
 by_cases h3:e=0
 ·have d3:(!decide (e=0))=false:=by simp[h3]
  rw[if_pos h3]
  repeat' (first|refine zB rfl d3 ?_|refine dV 2 aF rfl ?_|refine zA rfl ?_|refine aA ?_|refine aJ rfl ?_|refine aD rfl k ?_|refine aD rfl k0 ?_)
  exact⟨rfl,_,rfl,_,rfl,aH.of_closed (cE ({s with pins:=l},(0,v)))⟩
 ·have d3:(!decide (e=0))=true:=by simp[h3]
  rw[if_neg h3]
  repeat' (first|refine zB rfl d3 ?_|refine dV 2 aF rfl ?_|refine zA rfl ?_|refine aA ?_|refine aJ rfl ?_|refine aD rfl k ?_|refine aD rfl k0 ?_)
  exact⟨rfl,_,rfl,_,rfl,aH.of_closed (cE (s,(e,0)))⟩
theorem SW (l:List Pr) (hl:l.length < 100000) (p:Pr):aN Tryz.prog 188 [iQ l,p.av] (iQ (cV l p)):=by
 refine aT (aZ (c6 l) (i7 p)) (c6 _) ?_
 refine aC aF Tryz.func188 rfl (by decide) (by simp[Tryz.f188]) ?_
 have kf:=XD l .none (by omega) p.key
 have hle:=mO l p.key
 rw[I1]
 have hh:=@G6 l p.key
 generalize dF l p.key=n at kf hle hh
 unfold iQ
 cases hp:lC l p.key
 ·rw[hp] at kf
  rw[if_neg (by simp)]
  have hc:=c6 (l.take n++([p]++l.drop n))
  unfold iQ at hc
  rw[show (l.take n++([p]++l.drop n)).map Pr.av=[]++(l.take n).map Pr.av++[p.av]++(l.drop n).map Pr.av by simp] at hc ⊢
  repeat' (first|refine zA rfl ?_|refine aA ?_|refine aJ rfl ?_|refine aD rfl kf ?_)
  refine wN aF rfl rfl rfl rfl (n:=n) rfl rfl rfl rfl rfl rfl hle ?_
  repeat' (first|refine zA rfl ?_|refine aA ?_|refine aJ rfl ?_|refine zR rfl ?_|refine zP rfl rfl ?_|refine zQ rfl ?_)
  refine gM aF rfl rfl rfl rfl (lo:=n) rfl rfl rfl rfl rfl rfl hle ?_
  repeat' (first|refine zA rfl ?_|refine aA ?_|refine aJ rfl ?_|refine zP rfl rfl ?_)
  exact⟨rfl,_,rfl,_,rfl,aH.untag hc⟩
 ·have hlt:=hh hp
  have fi:=aQ (i:=n) (by omega)
  rw[hp] at kf
  rw[if_pos rfl]
  have hc:=c6 (l.take n++([p]++l.drop (n+1)))
  unfold iQ at hc
  rw[show (l.take n++([p]++l.drop (n+1))).map Pr.av=[]++(l.take n).map Pr.av++[p.av]++(l.drop (n+1)).map Pr.av by simp] at hc ⊢
  repeat' (first|refine zA rfl ?_|refine aA ?_|refine aJ rfl ?_|refine aD rfl kf ?_)
  refine wN aF rfl rfl rfl rfl (n:=n) rfl rfl rfl rfl rfl rfl hle ?_
  repeat' (first|refine zI rfl fi ?_|refine zA rfl ?_|refine aA ?_|refine aJ rfl ?_|refine zR rfl ?_|refine zP rfl rfl ?_|refine zQ rfl ?_)
  refine gM aF rfl rfl rfl rfl (lo:=n+1) rfl rfl rfl rfl rfl rfl (by omega) ?_
  repeat' (first|refine zA rfl ?_|refine aA ?_|refine aJ rfl ?_|refine zP rfl rfl ?_)
  exact⟨rfl,_,rfl,_,rfl,aH.untag hc⟩
noncomputable def rlF (l:List Pr) (a:Int) (c:List Ch) (tg:eI) (i:Nat):AF:=⟨[(0,iQ (iH l a (c.take i))),(1,.int .i64 a),(2,gS c tg),(8,.int .i64 (i:Int))],[]⟩
noncomputable def wA (l:List Pr) (a:Int) (c:List Ch):AV:=if tE l a c=true then .tup [iQ (iH l a c),.int .i64 0] else .tup [iQ [],.int .i64 1]
theorem FV (l:List Pr) (a:Int) (c:List Ch):aP (wA l a c):=by
 unfold wA
 split
 ·exact aW (aZ (c6 _) aB)
 ·exact aW (aZ (c6 _) aB)
theorem KS (a:Int):∀(c:List Ch) (l:List Pr),(iH l a c).length≤l.length+c.length
 |[],l=>Nat.le_refl _
 |x::r,l=>by
  have h1:=(jM l (uE a x)).2.1
  have h2:=KS a r (cV l (uE a x))
  have h3:iH l a (x::r)=iH (cV l (uE a x)) a r:=rfl
  rw[h3]
  simp only[List.length_cons]
  omega
theorem a0n (l:List Pr) (a:Int) (c:List Ch) (tg:eI) (htg:tg=.none∨tg=.full) (hl:l.length < 1000) (hv:dD l) (hcl:c.length < 1000) (hc:∀x,x∈c→fE x):aN Tryz.prog 155 [iQ l,.int .i64 a,gS c tg] (wA l a c):=by
 refine aT (cD (c6 l) aB (eN c htg)) (FV _ _ _) ?_
 refine aC aF Tryz.func155 rfl (by decide) (by simp[Tryz.f155]) ?_
 have k1:=tG l (by omega) hv
 have k2:=qE c tg (by omega) hc
 have k3:=GZ l (by omega) hv
 have la:=aU Ch.av c
 have no:∀h:tE l a c=false,wA l a c=.tup [iQ [],.int .i64 1]:=fun h=>by unfold wA;rw[if_neg (by simp[h])]
 unfold tE at no
 cases h1:eY l
 ·rw[no (by rw[h1];rfl)]
  rw[h1] at k1
  unfold iQ at*
  repeat' (first|refine zA rfl ?_|refine aA ?_|refine aJ rfl ?_|refine aD rfl k1 ?_)
  exact⟨rfl,_,rfl,_,rfl,aH.tup2 aH.nil (aH.of_closed aB)⟩
 ·rw[h1] at k1
  by_cases h2:1≤a
  ·have d2:decide (a < 1)=false:=decide_eq_false (by omega)
   by_cases h3:a≤1000000000
   ·have d3:decide (1000000000 < a)=false:=decide_eq_false (by omega)
    cases h4:cL c
    ·rw[no (by rw[h4];simp)]
     rw[h4] at k2
     unfold iQ at*
     unfold gS at*
     repeat' (first|refine zB rfl (by first|exact d2|exact d3) ?_|refine zA rfl ?_|refine aA ?_|refine aJ rfl ?_|refine aD rfl k1 ?_|refine aD rfl k2 ?_)
     exact⟨rfl,_,rfl,_,rfl,aH.tup2 aH.nil (aH.of_closed aB)⟩
    ·rw[h4] at k2
     by_cases h5:eO l < a
     ·have d5:decide (a≤eO l)=false:=decide_eq_false (by omega)
      have yes:wA l a c=.tup [iQ (iH l a c),.int .i64 0]:=by
       unfold wA tE
       rw[h1,h4,decide_eq_true h2,decide_eq_true h3,decide_eq_true h5]
       rfl
      rw[yes]
      have hm:∀x,x∈c→gE x=true:=by
       unfold cL at h4
       simp at h4
       exact h4.1.2
      have hR:=c6 (iH l a c)
      have hcc:=eN c htg
      unfold gS at*
      unfold iQ at k1 k3 hR ⊢
      repeat' (first|refine zB rfl (by first|exact d2|exact d3|exact d5) ?_|refine zA rfl ?_|refine aA ?_|refine aJ rfl ?_|refine aD rfl k1 ?_|refine aD rfl k2 ?_|refine aD rfl k3 ?_)
      refine aX c.length (fun i f N=>N=⟨0,[]⟩∧f=rlF l a c tg i) (Nat.zero_le _) ⟨rfl,rfl⟩ (aM.le ?_ (aI.le_nil rfl)) ?_
      ·unfold rlF gS iQ
       repeat (refine AF.le_cons rfl ?_)
       exact AF.le_nil rfl
      rintro i f N hi ⟨rfl,rfl⟩
      unfold rlF gS iQ
      by_cases g1:i < c.length
      ·have d1:decide ((i:Int) < (c.length:Int))=true:=decide_eq_true (by omega)
       have hx:c[i]? =some c[i]:=List.getElem?_eq_getElem g1
       have fi:=aQ (i:=i) (by omega)
       have ht:=b7 hx
       have hmx:=vG (hm _ (List.getElem_mem g1))
       have hcx:=hc _ (List.getElem_mem g1)
       generalize c[i]=x at hx ht hmx hcx
       have kv:=DX x.meta_ x.gone hcx.2
       have e0:kF (cI x.meta_ x.gone)=.tup [.str (cI x.meta_ x.gone).1,.int .i64 0]:=by unfold kF;rw[hmx]
       rw[e0] at kv
       have hl2:=KS a (c.take i) l
       rw[List.length_take] at hl2
       have hst:iH l a (c.take (i+1))=cV (iH l a (c.take i)) (uE a x):=by unfold iH;rw[ht,List.foldl_append];rfl
       have kp:=SW (iH l a (c.take i)) (by omega) (uE a x)
       rw[←hst] at kp
       generalize iH l a (c.take i)=u at kp
       generalize hU:iH l a (c.take (i+1))=U at kp
       have hUc:=c6 U
       unfold uE at kp
       unfold iQ at kp
       repeat' (first|refine zB rfl d1 ?_|refine zI rfl (by first|exact fi|exact la) ?_|refine zA rfl ?_|refine aA ?_|refine aJ rfl ?_|refine aD rfl kv ?_|refine aD rfl kp ?_|refine zX rfl (c7 hx) ?_|refine aO mixed [0,1,5,6,2,3,4,7,8,9,10,11,12,13,14,15] [.P,.P,.R,.R,.R,.P,.P,.R,.R,.R,.P,.P,.P,.P,.P,.P] rfl rfl (by kernel_rfl) ?_)
       refine⟨g1,rlF l a c tg (i+1),⟨0,[]⟩,⟨rfl,by unfold rlF iQ gS;rw[hU]⟩,aM.cut (k:=0) (t:=(rlF l a c tg (i+1)).t) (l:=[]) (Nat.le_refl _) (Nat.zero_le _) rfl ⟨?_,?_,?_,?_,trivial⟩ trivial⟩
       ·rw[hU]
        exact aH.of_closed hUc
       ·exact aH.of_closed aB
       ·exact aH.of_closed hcc
       ·exact aH.of_closed aB
      ·have d1:decide ((i:Int) < (c.length:Int))=false:=decide_eq_false (by omega)
       obtain rfl:i=c.length:=by omega
       rw[List.take_length]
       repeat' (first|refine zB rfl d1 ?_|refine zI rfl la ?_|refine zA rfl ?_|refine aA ?_|refine aJ rfl ?_)
       exact⟨rfl,_,rfl,_,rfl,aH.of_closed (aW (aZ hR aB))⟩
     ·have d5:decide (a≤eO l)=true:=decide_eq_true (by omega)
      rw[no (by rw[decide_eq_false h5];simp)]
      unfold iQ at*
      unfold gS at*
      repeat' (first|refine zB rfl (by first|exact d2|exact d3|exact d5) ?_|refine zA rfl ?_|refine aA ?_|refine aJ rfl ?_|refine aD rfl k1 ?_|refine aD rfl k2 ?_|refine aD rfl k3 ?_)
      exact⟨rfl,_,rfl,_,rfl,aH.tup2 aH.nil (aH.of_closed aB)⟩
   ·have d3:decide (1000000000 < a)=true:=decide_eq_true (by omega)
    rw[no (by rw[decide_eq_false h3];simp)]
    unfold iQ at*
    unfold gS at*
    repeat' (first|refine zB rfl (by first|exact d2|exact d3) ?_|refine zA rfl ?_|refine aA ?_|refine aJ rfl ?_|refine aD rfl k1 ?_)
    exact⟨rfl,_,rfl,_,rfl,aH.tup2 aH.nil (aH.of_closed aB)⟩
  ·have d2:decide (a < 1)=true:=decide_eq_true (by omega)
   rw[no (by rw[decide_eq_false h2];simp)]
   unfold iQ at*
   unfold gS at*
   repeat' (first|refine zB rfl d2 ?_|refine zA rfl ?_|refine aA ?_|refine aJ rfl ?_|refine aD rfl k1 ?_)
   exact⟨rfl,_,rfl,_,rfl,aH.tup2 aH.nil (aH.of_closed aB)⟩
def fl (l:List Pr):List AV:=b9 (l.map Pr.av)
theorem vY (l:List Pr):∀x,x∈l.map Pr.av→x.cells.length=3:=by
 intro x hx
 obtain⟨a,_,rfl⟩:=List.mem_map.1 hx
 rfl
theorem uF (l:List Pr):(fl l).length=l.length*3:=by
 unfold fl
 rw[cC (vY l)]
 simp
theorem a62 (a b:List Pr):fl (a++b)=fl a++fl b:=by simp[fl,b9]
theorem DT (l:List Pr):∀x,x∈fl l→aP x:=by
 intro x hx
 unfold fl b9 at hx
 obtain⟨y,hy,hx⟩:=List.mem_flatMap.1 hx
 obtain⟨a,_,rfl⟩:=List.mem_map.1 hy
 have:x∈[AV.str a.key.path,.int .i64 a.key.time,.str a.val]:=hx
 exact cD aR aB aR x this
theorem uT (rows:List (List Pr×Bool)) (i:Nat):(dN (rows.take i)).length≤(dN rows).length:=by
 unfold dN
 have:rows=rows.take i++rows.drop i:=(List.take_append_drop i rows).symm
 conv=>rhs;rw[this]
 rw[List.map_append,List.flatten_append,List.length_append]
 omega
def Q6 (rows:List (List Pr×Bool)) (b:Bool) (i:Nat) (x:AV):List (Nat×AV):=[(6,x),(25,.sl 1 (rows.map rP) (GV b)),(26,.int .i64 (rows.length:Int)),(27,.int .i64 (i:Int))]
theorem UV {k id:Nat} {rows:List (List Pr×Bool)} {b:Bool} {i:Nat} {x:AV} {f:AF} (h6:gT k id (f.get 6) x) (h25:f.get 25=.sl 1 (rows.map rP) (GV b)) (h26:f.get 26=.int .i64 (rows.length:Int)) (h27:f.get 27=.int .i64 (i:Int)):JL k id f (Q6 rows b i x):=by
 refine⟨h6,?_,?_,?_,trivial⟩
 ·rw[h25];exact gT.of_closed (pC rows b)
 ·rw[h26];exact gT.of_closed aB
 ·rw[h27];exact gT.of_closed aB
theorem C8 {A B:List Pr} {cap':Nat} {cells l':List AV} (hc:cells.take (A.length*3)=fl A) (g1:A.length+(B.map Pr.av).length≤cap') (g2:l'.length=cap'*3)
  (g3:l'.take ((A.length+(B.map Pr.av).length)*3)=cells.take (A.length*3)++b9 (B.map Pr.av)):
  l'.take (fl (A++B)).length=fl (A++B)∧l'.length=cap'*3∧(fl (A++B)).length≤cap'*3:=by
 rw[List.length_map] at g1 g3
 rw[hc] at g3
 refine⟨?_,g2,?_⟩
 ·rw[uF,List.length_append,a62]
  exact g3
 ·rw[uF,List.length_append]
  omega
theorem U4 (n:Nat) (h0:0 < n) (h1:n < 1000000) (M:aI):aS Tryz.prog 302 [.sl 0 [] .full,.int .i64 (n:Int)] M (fun e M'=>∃(cap:Nat) (l':List AV),n≤cap∧l'.length=cap*3∧e=.ret (.osl M.next 0 0 cap 3)∧M'=M.push (.cells l')):=by
 refine aC aF Tryz.func302 rfl (by decide) (by simp[Tryz.f302]) ?_
 have d1:decide ((n:Int) < 0)=false:=by simp
 have w0:IntKind.wrap .i64 ((n:Int) - 0)=(n:Int):=(Go.Ab.wrap_small (by omega) (by omega)).trans (by omega)
 have d2:decide ((0:Int) < (n:Int))=true:=by simp;omega
 repeat' (first|refine zB rfl d1 ?_|refine zA rfl ?_|refine aA ?_|refine aJ rfl ?_)
 refine G1 aF rfl rfl rfl rfl rfl rfl rfl ?_
 repeat' (first|refine zB rfl d2 ?_|refine zI rfl w0 ?_|refine zA rfl ?_|refine aA ?_|refine aJ rfl ?_)
 refine G1 aF rfl rfl rfl rfl rfl rfl rfl ?_
 skip
 refine AD aF rfl rfl rfl rfl rfl rfl rfl rfl rfl ?_
 repeat' (first|refine zA rfl ?_)
 refine P7 aF rfl rfl rfl rfl rfl (n:=n) rfl rfl rfl rfl rfl rfl rfl rfl h0 (by simp;omega) (by omega) ?_
 intro cap' l' g1 g2
 repeat' (first|refine zA rfl ?_)
 refine D4 aF rfl rfl rfl rfl rfl (l:=l') rfl (by rw[aI.get_push,if_pos rfl]) rfl rfl rfl rfl (by omega) (by simp) g1 ?_
 repeat' (first|refine zA rfl ?_|refine aA ?_|refine aJ rfl ?_)
 exact⟨rfl,_,rfl,cap',l',g1,g2,rfl,rfl⟩
theorem MQ (rows:List (List Pr×Bool)) (b:Bool) (hr:rows.length < 1000) (h0:0 < (dN rows).length) (h1:(dN rows).length < 100000):aN Tryz.prog 300 [.sl 1 (rows.map rP) (GV b)] (.sl 3 ((dN rows).map Pr.av) .none):=by
 refine aT (aY (pC rows b)) (bO _) ?_
 refine aC aF Tryz.func300 rfl (by decide) (by simp[Tryz.f300]) ?_
 have la:((rows.map rP).length:Int)=(rows.length:Int):=by simp
 repeat' (first|refine zI rfl la ?_|refine zA rfl ?_|refine aA ?_|refine aJ rfl ?_)
 refine aX rows.length (fun i f N=>N=⟨0,[]⟩∧f=⟨[(0,.sl 1 (rows.map rP) (GV b)),(3,.int .i64 ((dN (rows.take i)).length:Int)),(9,.sl 1 (rows.map rP) (GV b)),(10,.int .i64 (rows.length:Int)),(11,.int .i64 (i:Int))],[]⟩) (Nat.zero_le _) ⟨rfl,rfl⟩ (aM.le ?_ (aI.le_refl _)) ?_
 ·skip
  repeat (refine AF.le_cons rfl ?_)
  exact AF.le_nil rfl
 ·rintro i f N hi ⟨rfl,rfl⟩
  by_cases hi1:i < rows.length
  ·have d1:decide ((i:Int) < (rows.length:Int))=true:=by simp;omega
   have hx:rows[i]? =some rows[i]:=List.getElem?_eq_getElem hi1
   have fi:=aQ (i:=i) (by omega)
   have hs:=qY hx
   have hle:=uT rows (i+1)
   generalize rows[i]=r at hx hs
   rw[hs,List.length_append] at hle
   have lr:((r.1.map Pr.av).length:Int)=(r.1.length:Int):=by simp
   have w1:IntKind.wrap .i64 (((dN (rows.take i)).length:Int)+(r.1.length:Int))=((dN (rows.take (i+1))).length:Int):=by
    rw[hs,List.length_append]
    exact (Go.Ab.wrap_small (by omega) (by omega)).trans (by omega)
   have d2:decide (((dN (rows.take (i+1))).length:Int) < 0)=false:=by simp
   repeat' (first|refine zB rfl d1 ?_|refine aA ?_|refine aJ rfl ?_)
   refine zX rfl (c7 hx) ?_
   repeat' (first|refine zB rfl d2 ?_|refine zI rfl (by first|exact fi|exact lr|exact w1) ?_|refine zA rfl ?_|refine aA ?_|refine aJ rfl ?_)
   refine⟨hi1,_,_,⟨rfl,rfl⟩,aM.le ?_ (aI.le_refl _)⟩
   repeat (refine AF.le_cons rfl ?_)
   exact AF.le_nil rfl
  ·have d1:decide ((i:Int) < (rows.length:Int))=false:=by simp;omega
   obtain rfl:i=rows.length:=by omega
   rw[List.take_length]
   repeat' (first|refine zB rfl d1 ?_|refine zA rfl ?_|refine aA ?_|refine aJ rfl ?_)
   refine FH rfl rfl rfl rfl rfl rfl (U4 (dN rows).length h0 (by omega) ⟨0,[]⟩) ?_ (fun u M' ⟨_,_,_,_,e,_⟩=>by cases e)
   rintro u M' ⟨cap,l',g1,g2,g3,rfl⟩
   cases g3
   repeat' (first|refine zI rfl la ?_|refine zA rfl ?_|refine aA ?_|refine aJ rfl ?_)
   refine aX rows.length (fun i f N=>∃(cap:Nat) (cells:List AV) (id:Nat),id≤1∧(dN (rows.take i)).length≤cap∧cells.take ((dN (rows.take i)).length*3)=fl (dN (rows.take i))∧cells.length=cap*3∧N=⟨id+1,[(id,.cells cells)]⟩∧f=⟨Q6 rows b i (.osl id 0 (dN (rows.take i)).length cap 3),[]⟩) (Nat.zero_le _) ⟨cap,l',0,Nat.zero_le 1,Nat.zero_le _,rfl,g2,rfl,rfl⟩ (aM.le ?_ (aI.le_refl _)) ?_
   ·unfold Q6
    repeat (refine AF.le_cons rfl ?_)
    exact AF.le_nil rfl
   ·rintro i f N hi ⟨cap,cells,id,hid,hcap,hce,hcl,rfl,rfl⟩
    have hle0:=uT rows i
    unfold Q6
    by_cases hi1:i < rows.length
    ·have d1:decide ((i:Int) < (rows.length:Int))=true:=by simp;omega
     have hx:rows[i]? =some rows[i]:=List.getElem?_eq_getElem hi1
     have fi:=aQ (i:=i) (by omega)
     have hs:=qY hx
     have hle:=uT rows (i+1)
     generalize rows[i]=r at hx hs
     rw[hs,List.length_append] at hle
     generalize dN (rows.take i)=A at hs hle hle0 hce hcap
     have hl:(A++r.1).length=A.length+(r.1.map Pr.av).length:=by simp
     have hid2:id=0∨id=1:=by omega
     rcases hid2 with rfl|rfl
     ·repeat' (first|refine zB rfl d1 ?_|refine aA ?_|refine aJ rfl ?_)
      refine zX rfl (c7 hx) ?_
      repeat' (first|refine zA rfl ?_|refine aA ?_|refine aJ rfl ?_)
      refine nM aF rfl rfl rfl rfl rfl (l:=cells) rfl rfl rfl rfl rfl rfl rfl rfl rfl rfl (by omega) (by omega) (by simp;omega) (by simp;omega) ?_
      intro cap' l' g1 g2 g3
      repeat' (first|refine zI rfl (by first|exact la|exact fi) ?_|refine zA rfl ?_|refine aA ?_|refine aJ rfl ?_)
      obtain⟨k1,k2,k3⟩:=C8 hce g1 g2 g3
      have hg:=sP (k:=1) (id:=1) k1 k2 k3 (DT _)
      refine⟨hi1,_,_,⟨cap',sI (fl (A++r.1)) (cap'*3),1,Nat.le_refl 1,?_,?_,?_,rfl,rfl⟩,aM.move (k:=1) (id:=1) (Nat.le_refl 1) (Nat.le_refl 1) rfl hg.1 hg.2 trivial ?_ trivial⟩
      ·rw[hs];rw[uF] at k3;omega
      ·rw[hs];have:=qA (fl (A++r.1)) (cap'*3);rw[uF] at this;exact this
      ·exact pI k3
      ·rw[hs,hl]
       exact UV gT.osl rfl rfl rfl
     ·repeat' (first|refine zB rfl d1 ?_|refine aA ?_|refine aJ rfl ?_)
      refine zX rfl (c7 hx) ?_
      repeat' (first|refine zA rfl ?_|refine aA ?_|refine aJ rfl ?_)
      refine nM aF rfl rfl rfl rfl rfl (l:=cells) rfl rfl rfl rfl rfl rfl rfl rfl rfl rfl (by omega) (by omega) (by simp;omega) (by simp;omega) ?_
      intro cap' l' g1 g2 g3
      repeat' (first|refine zI rfl (by first|exact la|exact fi) ?_|refine zA rfl ?_|refine aA ?_|refine aJ rfl ?_)
      obtain⟨k1,k2,k3⟩:=C8 hce g1 g2 g3
      have hg:=sP (k:=1) (id:=2) k1 k2 k3 (DT _)
      refine⟨hi1,_,_,⟨cap',sI (fl (A++r.1)) (cap'*3),1,Nat.le_refl 1,?_,?_,?_,rfl,rfl⟩,aM.move (k:=1) (id:=2) (Nat.le_refl 1) (by omega) rfl hg.1 hg.2 trivial ?_ trivial⟩
      ·rw[hs];rw[uF] at k3;omega
      ·rw[hs];have:=qA (fl (A++r.1)) (cap'*3);rw[uF] at this;exact this
      ·exact pI k3
      ·rw[hs,hl]
       exact UV gT.osl rfl rfl rfl
    ·have d1:decide ((i:Int) < (rows.length:Int))=false:=by simp;omega
     obtain rfl:i=rows.length:=by omega
     rw[List.take_length] at hce hcap
     rw[List.take_length]
     have hid2:id=0∨id=1:=by omega
     rcases hid2 with rfl|rfl
     ·refine lN (aM.freezeS 6 (xs:=(dN rows).map Pr.av) rfl rfl hce (by simp) (by omega) hcap (vY _)) ?_
      repeat' (first|refine zB rfl d1 ?_|refine zA rfl ?_|refine aA ?_|refine aJ rfl ?_)
      exact⟨rfl,_,rfl,_,rfl,aH.of_closed (bO _)⟩
     ·refine lN (aM.freezeS 6 (xs:=(dN rows).map Pr.av) rfl rfl hce (by simp) (by omega) hcap (vY _)) ?_
      repeat' (first|refine zB rfl d1 ?_|refine zA rfl ?_|refine aA ?_|refine aJ rfl ?_)
      exact⟨rfl,_,rfl,_,rfl,aH.of_closed (bO _)⟩
end Go.Proofs.YthnhbmlefiafaaaGreatDoor
