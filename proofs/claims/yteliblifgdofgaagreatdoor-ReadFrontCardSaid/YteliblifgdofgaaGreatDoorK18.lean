/- Parts of the proof, one behind the other. No further condition. -/
import Derived.Test.YteliblifgdofgaaGreatDoorK17
import Derived.Test.YteliblifgdofgaaGreatDoorK10
import Derived.Test.YteliblifgdofgaaGreatDoorK09
import Derived.Test.YteliblifgdofgaaGreatDoorK07
import Derived.Test.YteliblifgdofgaaGreatDoorK14
import Derived.Test.YteliblifgdofgaaGreatDoorK13
import Derived.Test.YteliblifgdofgaaGreatDoorK12
set_option linter.unusedVariables false
set_option linter.unusedSimpArgs false
set_option maxRecDepth 100000
set_option maxHeartbeats 8000000
namespace Go.Proofs.YteliblifgdofgaaGreatDoor
open Go.Ab
theorem oX {out:List Pr} {n:Nat} {k:Ky} {h:Nat} {l:List (Vt h)}:dV out n k l 0=out:=by
 unfold dV gF
 have:bH h (l.take 0)=[]:=rfl
 rw[this]
 simp[dF]
theorem JZ (h:Nat) (IH:LC h) (l:Vt (h+1)) (hv:kQ (h+1) l) (hr:bT (bE (h+1) l)) (k:Ky) (out:List Pr) (ho:out.length < 100000000) (n:Nat) (hn:n < 100000000) (g:Nat):
  aQ Tryz.prog 381 [tL (h+1) l,k.av,.sl 3 (out.map Pr.av) (.tok 0 g),.int .i64 (n:Int)] (tokM g) (fun e M'=>∃g',e=.ret (.sl 3 ((gF out n (dF (bE (h+1) l) k)).map Pr.av) (.tok 0 g'))∧(tokM g').le M'):=by
 obtain⟨h1,h2,h3⟩:=hv
 have h0:l.kids≠[]:=by intro he;rw[he] at h1;simp at h1
 obtain⟨a,v,b,e1,e2,e3,e4,e5⟩:=jT h0 h3 hr k
 have hall:bE (h+1) l=bH h a++bH h (v::b):=by
  show bH h l.kids=_
  rw[e1,bQ]
 have hrb:bT (bH h (v::b)):=by rw[hall] at hr;exact (List.pairwise_append.1 hr).2.1
 have hdrop:l.kids.drop (bL l.kids k)=v::b:=by rw[e2,e1,List.drop_left]
 have hble:bL l.kids k≤l.kids.length:=by rw[e2,e1];simp
 have hkids:∀x,x∈v::b→kQ h x:=fun x hx=>h3 x (by rw[e1];simp at hx ⊢;rcases hx with rfl|hx<;>simp[*])
 have hbl:(v::b).length≤4:=by rw[e1] at h2;simp at h2 ⊢;omega
 have hlater:∀x,x∈bH h b→bI x.key k=false:=fun x hx=>gT (e5 x hx)
 rw[hall,vF e4]
 have hfin:gF out n (dF (bH h (v::b)) k)=dV out n k (v::b) (v::b).length:=by unfold dV;rw[List.take_length]
 rw[hfin]
 have kb:=sR h l.kids ((bE (h+1) l).length:Int) (by omega) h3 k
 have hlat2:∀i,0 < i→∀p,p∈bH h ((v::b).drop i)→bI p.key k=false:=by
  intro i hi p hp
  match i,hi with
  |i+1,_=>
   refine hlater p ?_
   have:=bQ (h:=h) (b.take i) (b.drop i)
   rw[List.take_append_drop] at this
   rw[this]
   simp at hp ⊢
   exact .inr hp
 generalize bL l.kids k=at_ at kb hdrop hble
 have hin:tL (h+1) l=.agg [.sl 1 (l.kids.map (dL h)) .none,.int .i64 ((bE (h+1) l).length:Int)]:=rfl
 rw[hin]
 generalize ((bE (h+1) l).length:Int)=cnt at kb
 refine aC aF Tryz.func381 rfl (by decide) (by simp[Tryz.f381]) ?_
 repeat' (first|refine zA rfl ?_|refine aA ?_|refine aL rfl ?_|refine aH rfl kb ?_|refine aW mixed [7,0,1,2,3,4,5,6] [.R,.R,.R,.R,.P,.P,.P,.P] rfl rfl (by kernel_rfl) ?_)
 refine gO aF rfl rfl rfl rfl (lo:=at_) rfl rfl rfl rfl rfl rfl hble ?_
 rw[hdrop]
 generalize hL:v::b=L at hkids hbl hlat2 hrb
 have la:((L.map (dL h)).length:Int)=(L.length:Int):=by simp
 repeat' (first|refine zI rfl la ?_|refine aA ?_|refine aL rfl ?_)
 refine bC L.length (fun i f N=>∃(g:Nat),N=tokM g∧f=⟨[(2,.sl 3 ((dV out n k L i).map Pr.av) (.tok 0 g)),(3,.int .i64 (n:Int)),(5,.ref [.str k.path,.int .i64 k.time]),(16,.sl 1 (L.map (dL h)) .none),(17,.int .i64 (L.length:Int)),(18,.int .i64 (i:Int))],[]⟩) (Nat.zero_le _) ⟨g,rfl,rfl⟩
  (aR.le (AF.le_cons (by rw[oX];rfl) (AF.le_cons rfl (AF.le_cons rfl (AF.le_cons rfl (AF.le_cons rfl (AF.le_cons rfl (AF.le_nil rfl))))))) (fF rfl rfl)) ?_
 rintro i f N hi ⟨g,rfl,rfl⟩
 by_cases hi1:i < L.length
 ·have d1:decide ((i:Int) < (L.length:Int))=true:=by simp;omega
  have hx:L[i]? =some L[i]:=List.getElem?_eq_getElem hi1
  have fi:=aZ (i:=i) (by omega)
  have hxm:L[i]∈L:=List.getElem_mem hi1
  have hxl:∀p,p∈bE h L[i]→p∈bH h (L.drop i):=by
   intro p hp
   rw[List.drop_eq_getElem_cons hi1,dU]
   simp[hp]
  have hxr:bT (bE h L[i]):=by
   have e:bH h L=bH h (L.take i)++(bE h L[i]++bH h (L.drop (i+1))):=by
    rw[←dU,←List.drop_eq_getElem_cons hi1,←bQ,List.take_append_drop]
   rw[e] at hrb
   exact lV hrb
  generalize L[i]=x at hx hxm hxl hxr
  have hstep:=D4 (k:=k) (out:=out) (n:=n) hx (fun h0 p hp=>hlat2 i h0 p (hxl p hp))
  have hlen:(dV out n k L i).length < 100000000:=Nat.lt_of_le_of_lt (DI _ _ _) (Nat.max_lt.2 ⟨by first|exact ho|simp,hn⟩)
  have lo:(((dV out n k L i).map Pr.av).length:Int)=((dV out n k L i).length:Int):=by simp
  by_cases hf:n≤(dV out n k L i).length
  ·have d2:decide ((n:Int)≤((dV out n k L i).length:Int))=true:=by simp;omega
   have hst:dV out n k L i=dV out n k L L.length:=by
    refine C2 hrb hf ?_ (hlat2 i)
    by_cases h0:i=0
    ·subst h0
     rw[oX] at hf
     exact .inr hf
    ·exact .inl (by omega)
   repeat' (first|refine zB rfl d1 ?_|refine aA ?_|refine aL rfl ?_)
   refine dG aF rfl rfl rfl rfl rfl rfl rfl rfl rfl rfl (Int.natCast_nonneg _) (fT hx) ?_
   repeat' (first|refine zB rfl d2 ?_|refine zI rfl (by first|exact fi|exact lo) ?_|refine zA rfl ?_|refine aA ?_|refine aL rfl ?_)
   refine⟨rfl,_,rfl,g,?_,fF rfl rfl⟩
   rw[←hst]
   rfl
  ·have d2:decide ((n:Int)≤((dV out n k L i).length:Int))=false:=by simp;omega
   have my:=WB h
   have kc:=IH x k (dV out n k L i) n g (j4 (hkids x hxm)) hxr hlen hn
   rw[hstep] at kc
   repeat' (first|refine zB rfl d1 ?_|refine aA ?_|refine aL rfl ?_)
   refine dG aF rfl rfl rfl rfl rfl rfl rfl rfl rfl rfl (Int.natCast_nonneg _) (fT hx) ?_
   repeat' (first|refine zB rfl d2 ?_|refine zI rfl (by first|exact fi|exact lo) ?_|refine zA rfl ?_|refine aA ?_|refine aL rfl ?_)
   refine qV rfl rfl rfl rfl rfl my rfl kc ?_ (fun u M' ⟨_,e,_⟩=>by cases e)
   rintro u M' ⟨g',e,hM⟩
   cases e
   repeat' (first|refine zI rfl fi ?_|refine zA rfl ?_|refine aA ?_|refine aL rfl ?_)
   refine⟨hi1,_,_,⟨g',rfl,rfl⟩,aR.le ?_ hM⟩
   repeat (refine AF.le_cons rfl ?_)
   exact AF.le_nil rfl
 ·have d1:decide ((i:Int) < (L.length:Int))=false:=by simp;omega
  obtain rfl:i=L.length:=by omega
  repeat' (first|refine zB rfl d1 ?_|refine zA rfl ?_|refine aA ?_|refine aL rfl ?_)
  exact⟨rfl,_,rfl,g,rfl,fF rfl rfl⟩
theorem E6 (h:Nat) (IH:LC h) (l:Vt (h+1)) (hv:kQ (h+1) l) (hr:bT (bE (h+1) l)) (k:Ky) (n:Nat) (hn:n < 100000000):
  aQ Tryz.prog 381 [tL (h+1) l,k.av,.sl 0 [] .full,.int .i64 (n:Int)] ⟨0,[]⟩ (fun e M'=>∃g',e=.ret (.sl 3 ((gF [] n (dF (bE (h+1) l) k)).map Pr.av) (.tok 0 g'))∧(tokM g').le M'):=by
 obtain⟨h1,h2,h3⟩:=hv
 have h0:l.kids≠[]:=by intro he;rw[he] at h1;simp at h1
 obtain⟨a,v,b,e1,e2,e3,e4,e5⟩:=jT h0 h3 hr k
 have hall:bE (h+1) l=bH h a++bH h (v::b):=by
  show bH h l.kids=_
  rw[e1,bQ]
 have hrb:bT (bH h (v::b)):=by rw[hall] at hr;exact (List.pairwise_append.1 hr).2.1
 have hdrop:l.kids.drop (bL l.kids k)=v::b:=by rw[e2,e1,List.drop_left]
 have hble:bL l.kids k≤l.kids.length:=by rw[e2,e1];simp
 have hkids:∀x,x∈v::b→kQ h x:=fun x hx=>h3 x (by rw[e1];simp at hx ⊢;rcases hx with rfl|hx<;>simp[*])
 have hbl:(v::b).length≤4:=by rw[e1] at h2;simp at h2 ⊢;omega
 have hlater:∀x,x∈bH h b→bI x.key k=false:=fun x hx=>gT (e5 x hx)
 rw[hall,vF e4]
 have hfin:gF [] n (dF (bH h (v::b)) k)=dV [] n k (v::b) (v::b).length:=by unfold dV;rw[List.take_length]
 rw[hfin]
 have kb:=sR h l.kids ((bE (h+1) l).length:Int) (by omega) h3 k
 have hlat2:∀i,0 < i→∀p,p∈bH h ((v::b).drop i)→bI p.key k=false:=by
  intro i hi p hp
  match i,hi with
  |i+1,_=>
   refine hlater p ?_
   have:=bQ (h:=h) (b.take i) (b.drop i)
   rw[List.take_append_drop] at this
   rw[this]
   simp at hp ⊢
   exact .inr hp
 generalize bL l.kids k=at_ at kb hdrop hble
 have hin:tL (h+1) l=.agg [.sl 1 (l.kids.map (dL h)) .none,.int .i64 ((bE (h+1) l).length:Int)]:=rfl
 rw[hin]
 generalize ((bE (h+1) l).length:Int)=cnt at kb
 refine aC aF Tryz.func381 rfl (by decide) (by simp[Tryz.f381]) ?_
 refine jR (aR.tok 2 rfl (sz':=3) (.inr rfl)) ?_
 repeat' (first|refine zA rfl ?_|refine aA ?_|refine aL rfl ?_|refine aH rfl kb ?_|refine aW mixed [7,0,1,2,3,4,5,6] [.R,.R,.R,.R,.P,.P,.P,.P] rfl rfl (by kernel_rfl) ?_)
 refine gO aF rfl rfl rfl rfl (lo:=at_) rfl rfl rfl rfl rfl rfl hble ?_
 rw[hdrop]
 generalize hL:v::b=L at hkids hbl hlat2 hrb
 have la:((L.map (dL h)).length:Int)=(L.length:Int):=by simp
 repeat' (first|refine zI rfl la ?_|refine aA ?_|refine aL rfl ?_)
 refine bC L.length (fun i f N=>∃(g:Nat),N=tokM g∧f=⟨[(2,.sl 3 ((dV [] n k L i).map Pr.av) (.tok 0 g)),(3,.int .i64 (n:Int)),(5,.ref [.str k.path,.int .i64 k.time]),(16,.sl 1 (L.map (dL h)) .none),(17,.int .i64 (L.length:Int)),(18,.int .i64 (i:Int))],[]⟩) (Nat.zero_le _) ⟨0,rfl,rfl⟩
  (aR.le (AF.le_cons (by rw[oX];rfl) (AF.le_cons rfl (AF.le_cons rfl (AF.le_cons rfl (AF.le_cons rfl (AF.le_cons rfl (AF.le_nil rfl))))))) (fF rfl rfl)) ?_
 rintro i f N hi ⟨g,rfl,rfl⟩
 by_cases hi1:i < L.length
 ·have d1:decide ((i:Int) < (L.length:Int))=true:=by simp;omega
  have hx:L[i]? =some L[i]:=List.getElem?_eq_getElem hi1
  have fi:=aZ (i:=i) (by omega)
  have hxm:L[i]∈L:=List.getElem_mem hi1
  have hxl:∀p,p∈bE h L[i]→p∈bH h (L.drop i):=by
   intro p hp
   rw[List.drop_eq_getElem_cons hi1,dU]
   simp[hp]
  have hxr:bT (bE h L[i]):=by
   have e:bH h L=bH h (L.take i)++(bE h L[i]++bH h (L.drop (i+1))):=by
    rw[←dU,←List.drop_eq_getElem_cons hi1,←bQ,List.take_append_drop]
   rw[e] at hrb
   exact lV hrb
  generalize L[i]=x at hx hxm hxl hxr
  have hstep:=D4 (k:=k) (out:=[]) (n:=n) hx (fun h0 p hp=>hlat2 i h0 p (hxl p hp))
  have hlen:(dV [] n k L i).length < 100000000:=Nat.lt_of_le_of_lt (DI _ _ _) (Nat.max_lt.2 ⟨by first|exact ho|simp,hn⟩)
  have lo:(((dV [] n k L i).map Pr.av).length:Int)=((dV [] n k L i).length:Int):=by simp
  by_cases hf:n≤(dV [] n k L i).length
  ·have d2:decide ((n:Int)≤((dV [] n k L i).length:Int))=true:=by simp;omega
   have hst:dV [] n k L i=dV [] n k L L.length:=by
    refine C2 hrb hf ?_ (hlat2 i)
    by_cases h0:i=0
    ·subst h0
     rw[oX] at hf
     exact .inr hf
    ·exact .inl (by omega)
   repeat' (first|refine zB rfl d1 ?_|refine aA ?_|refine aL rfl ?_)
   refine dG aF rfl rfl rfl rfl rfl rfl rfl rfl rfl rfl (Int.natCast_nonneg _) (fT hx) ?_
   repeat' (first|refine zB rfl d2 ?_|refine zI rfl (by first|exact fi|exact lo) ?_|refine zA rfl ?_|refine aA ?_|refine aL rfl ?_)
   refine⟨rfl,_,rfl,g,?_,fF rfl rfl⟩
   rw[←hst]
   rfl
  ·have d2:decide ((n:Int)≤((dV [] n k L i).length:Int))=false:=by simp;omega
   have my:=WB h
   have kc:=IH x k (dV [] n k L i) n g (j4 (hkids x hxm)) hxr hlen hn
   rw[hstep] at kc
   repeat' (first|refine zB rfl d1 ?_|refine aA ?_|refine aL rfl ?_)
   refine dG aF rfl rfl rfl rfl rfl rfl rfl rfl rfl rfl (Int.natCast_nonneg _) (fT hx) ?_
   repeat' (first|refine zB rfl d2 ?_|refine zI rfl (by first|exact fi|exact lo) ?_|refine zA rfl ?_|refine aA ?_|refine aL rfl ?_)
   refine qV rfl rfl rfl rfl rfl my rfl kc ?_ (fun u M' ⟨_,e,_⟩=>by cases e)
   rintro u M' ⟨g',e,hM⟩
   cases e
   repeat' (first|refine zI rfl fi ?_|refine zA rfl ?_|refine aA ?_|refine aL rfl ?_)
   refine⟨hi1,_,_,⟨g',rfl,rfl⟩,aR.le ?_ hM⟩
   repeat (refine AF.le_cons rfl ?_)
   exact AF.le_nil rfl
 ·have d1:decide ((i:Int) < (L.length:Int))=false:=by simp;omega
  obtain rfl:i=L.length:=by omega
  repeat' (first|refine zB rfl d1 ?_|refine zA rfl ?_|refine aA ?_|refine aL rfl ?_)
  exact⟨rfl,_,rfl,g,rfl,fF rfl rfl⟩
theorem H1:∀h:Nat,LC h
 |0=>fun v k out n g hv _ ho hn=>JV v.row (by have:v.row.length≤4:=hv;omega) k out ho n hn g
 |h+1=>fun v k out n g hv hr ho hn=>JZ h (H1 h) v hv hr k out ho n hn g
theorem UA (h:Nat) (v:Vt h) (hv:KG h v) (hr:bT (bE h v)) (k:Ky) (n:Nat) (hn:n < 100000000):
  aQ Tryz.prog (WS h) [tL h v,k.av,.sl 0 [] .full,.int .i64 (n:Int)] ⟨0,[]⟩ (fun e M'=>∃g',e=.ret (.sl 3 (((dF (bE h v) k).take n).map Pr.av) (.tok 0 g'))∧(tokM g').le M'):=by
 have e:gF [] n (dF (bE h v) k)=(dF (bE h v) k).take n:=by simp[gF]
 rw[←e]
 cases h with
 |zero=>exact FZ v.row (by have:v.row.length≤4:=hv;omega) k n hn
 |succ h=>exact E6 h (H1 h) v hv hr k n hn
structure Tr where
 h:Nat
 v:Vt h
 ok:KG h v
 rise:bT (bE h v)
def Tr.av (t:Tr):AV:=.ref [.iface (G7 t.h) (tL t.h t.v)]
def Tr.all (t:Tr):List Pr:=bE t.h t.v
theorem bG (t:Tr):aN t.av:=fX (aX (by rw[←gR];exact dJ _ _))
def a0t:Tr:=⟨0,([]:List Pr),Nat.zero_le _,List.Pairwise.nil⟩
theorem a74:aO Tryz.prog 107 [] a0t.av:=by
 refine aU (by simp) (bG _) ?_
 refine aC aF Tryz.func107 rfl (by decide) (by simp[Tryz.f107]) ?_
 repeat' (first|refine zA rfl ?_|refine aA ?_|refine aL rfl ?_)
 exact⟨rfl,_,rfl,_,rfl,aI.pre (Sub.ref1 (Sub.iface Sub.nil)) (aI.of_closed (bG a0t))⟩
theorem a6y:Tryz.prog.underlying 239=some (.interface (Tryz.prog.methodsAt 239)):=by kernel_rfl
theorem AP (t:Tr):aO Tryz.prog 153 [t.av] (.iface (G7 t.h) (tL t.h t.v)):=by
 intro M
 refine aC aF Tryz.func153 rfl (by decide) (by simp[Tryz.f153]) ?_
 unfold Tr.av
 repeat' (first|refine zA rfl ?_|refine aA ?_|refine aL rfl ?_|refine wS aF rfl ?_)
 refine a13 rfl rfl rfl rfl a6y rfl rfl ?_
 repeat' (first|refine zA rfl ?_|refine aA ?_|refine aL rfl ?_)
 exact⟨rfl,_,rfl,rfl,rfl⟩
theorem VI (t:Tr):aO Tryz.prog 159 [t.av] (.int .i64 (t.all.length:Int)):=by
 intro M
 refine aC aF Tryz.func159 rfl (by decide) (by simp[Tryz.f159]) ?_
 have kt:=AP t
 have ka:=WQ t.h t.v
 have my:=a9x t.h
 unfold Tr.av at kt ⊢
 unfold Tr.all
 repeat' (first|refine zA rfl ?_|refine aA ?_|refine aL rfl ?_|refine aH rfl kt ?_)
 refine cW rfl rfl rfl rfl rfl my ka ?_
 repeat' (first|refine zA rfl ?_|refine aA ?_|refine aL rfl ?_)
 exact⟨rfl,_,rfl,rfl,rfl⟩
def a9f {h:Nat} {x y:Vt h} (hx:kQ h x) (hy:kQ h y) (hr:bT (bE h x++bE h y)):Tr:=⟨h+1,([x,y]:List (Vt h)),⟨by show 2≤[x,y].length;simp,by show [x,y].length≤4;simp,by intro k hk;have hk':k∈[x,y]:=hk;simp at hk';rcases hk' with rfl|rfl<;>assumption⟩,by
 have e:bE (h+1) ([x,y]:List (Vt h))=bE h x++bE h y:=by show bH h [x,y]=_;simp[bH]
 rw[e];exact hr⟩
theorem FT (t:Tr) (p:Pr) (hs:t.all.length < 10000000):∃u:Tr,u.all=cQ t.all p∧aO Tryz.prog 108 [t.av,p.av] u.av:=by
 obtain⟨h,v,hv,hr⟩:=t
 have hs':(bE h v).length < 10000000:=hs
 have kt:=AP ⟨h,v,hv,hr⟩
 have kp:=PA h v p hv hr (by omega)
 have my:=aA4 h
 have hpl:=jX (bE h v) p
 have hpr:=RY (p:=p) hr
 rcases VK (p:=p) hv hr with ⟨x,e,hx,hall⟩|⟨x,y,e,hx,hy,hall⟩
 ·refine⟨⟨h,x,hx,by rw[hall];exact hpr⟩,hall,?_⟩
  rw[e] at kp
  intro M
  refine aC aF Tryz.func108 rfl (by decide) (by simp[Tryz.f108]) ?_
  repeat' (first|refine zA rfl ?_|refine aA ?_|refine aL rfl ?_|refine aH rfl kt ?_|refine aW mixed [0,1,2,3,4] [.P,.P,.R,.P,.P] rfl rfl (by kernel_rfl) ?_)
  refine cW rfl rfl rfl rfl rfl my kp ?_
  repeat' (first|refine zA rfl ?_|refine aA ?_|refine aL rfl ?_)
  refine dG aF rfl rfl rfl rfl rfl rfl rfl rfl rfl rfl (Int.le_refl 0) (fT (l:=[x]) (i:=0) rfl) ?_
  repeat' (first|refine zA rfl ?_|refine aA ?_|refine aL rfl ?_)
  exact⟨rfl,_,rfl,rfl,rfl⟩
 ·have hall2:(bH h [x,y]).length < 1000000000:=by
   have:bH h [x,y]=bE h x++bE h y:=by simp[bH]
   rw[this,hall]
   omega
  refine⟨a9f hx hy (by rw[hall];exact hpr),?_,?_⟩
  ·show bH h [x,y]=cQ (bE h v) p
   simpa [bH] using hall
  ·have kf:=sW h [x,y] (by simp) hall2
   rw[e] at kp
   intro M
   refine aC aF Tryz.func108 rfl (by decide) (by simp[Tryz.f108]) ?_
   repeat' (first|refine zA rfl ?_|refine aA ?_|refine aL rfl ?_|refine aH rfl kt ?_|refine aW mixed [0,1,2,3,4] [.P,.P,.R,.P,.P] rfl rfl (by kernel_rfl) ?_)
   refine cW rfl rfl rfl rfl rfl my kp ?_
   repeat' (first|refine zA rfl ?_|refine aA ?_|refine aL rfl ?_|refine aH rfl kf ?_)
   refine dG aF rfl rfl rfl rfl rfl rfl rfl rfl rfl rfl (Int.le_refl 0) (fT (h:=h+1) (l:=[([x,y]:List (Vt h))]) (i:=0) rfl) ?_
   repeat' (first|refine zA rfl ?_|refine aA ?_|refine aL rfl ?_)
   exact⟨rfl,_,rfl,rfl,rfl⟩
theorem TL (n:Int):(if true=true then (if n < 0 then 0 else n) else if 0 < n then 0 else n)=((n.toNat:Nat):Int):=by
 rw[if_pos rfl]
 split<;>omega
theorem J4 (t:Tr) (hs:t.all.length < 10000000) (k:Ky) (n:Int):aO Tryz.prog 114 [t.av,k.av,.int .i64 n] (.sl 3 (((dF t.all k).take (min n.toNat t.all.length)).map Pr.av) .none):=by
 refine aU (bK (bG t) (iU k) aB) (bW _) ?_
 refine aC aF Tryz.func114 rfl (by decide) (by simp[Tryz.f114]) ?_
 have kt:=AP t
 have kl:=VI t
 have my:=WB t.h
 have hm:=TL n
 have hmin:=E7 n.toNat t.all.length
 have kc:=UA t.h t.v t.ok t.rise k (min n.toNat t.all.length) (by omega)
 unfold Tr.av at kt kl ⊢
 repeat' (first|refine zI rfl (by first|exact hm|exact hmin) ?_|refine zA rfl ?_|refine aA ?_|refine aL rfl ?_|refine aH rfl kt ?_|refine aH rfl kl ?_|refine aW mixed [0,1,3,4,5,6,7,8,2,9,10,11,12] [.P,.P,.R,.P,.P,.P,.P,.P,.P,.R,.P,.E,.P] rfl rfl (by kernel_rfl) ?_)
 refine VP rfl rfl rfl rfl rfl my ?_
 repeat' (first|refine zA rfl ?_)
 refine qV rfl rfl rfl rfl rfl my rfl kc ?_ (fun u M' ⟨_,e,_⟩=>by cases e)
 rintro u M' ⟨g',e,hM⟩
 cases e
 repeat' (first|refine zA rfl ?_|refine aA ?_|refine aL rfl ?_)
 exact⟨rfl,_,rfl,_,rfl,aI.untag (bW _)⟩
theorem a0m {h:Nat} {v:Vt h} (hh:0 < h) (ok:KG h v):kQ h v:=by
 cases h with
 |zero=>omega
 |succ h=>exact ok
theorem J7 {h:Nat} {v:Vt h}:dF (bE h v) (cS h v)=bE h v:=by
 unfold cS dF
 cases hv:bE h v with
 |nil=>rfl
 |cons q r=>
  show List.dropWhile _ (q::r)=_
  rw[List.dropWhile_cons,if_neg]
  show ¬bI q.key q.key=true
  rw[fI]
  simp
theorem sE (t:Tr) (hs:t.all.length < 10000000):aO Tryz.prog 111 [t.av] (.sl 3 (t.all.map Pr.av) .none):=by
 refine aU (aX (bG t)) (bW _) ?_
 refine aC aF Tryz.func111 rfl (by decide) (by simp[Tryz.f111]) ?_
 have kt:=AP t
 have kl:=VI t
 have my:=LV t.h
 have kc:=J4 t hs (cS t.h t.v) (t.all.length:Int)
 have e1:dF t.all (cS t.h t.v)=t.all:=J7
 have e2:min ((t.all.length:Int)).toNat t.all.length=t.all.length:=by simp
 rw[e1,e2,List.take_length] at kc
 by_cases h0:t.all=[]
 ·have d0:decide ((t.all.length:Int)=0)=true:=by simp[h0]
  rw[h0] at kl ⊢
  unfold Tr.av at kl ⊢
  repeat' (first|refine zA rfl ?_|refine aA ?_|refine aL rfl ?_|refine aH rfl kl ?_)
  exact⟨rfl,_,rfl,_,rfl,aI.nil⟩
 ·have d0:decide ((t.all.length:Int)=0)=false:=by simp[h0]
  have kf:=uO t.h t.v (fun _=>h0) (fun hh=>a0m hh t.ok)
  unfold Tr.av at kt kl kc ⊢
  repeat' (first|refine zB rfl d0 ?_|refine zA rfl ?_|refine aA ?_|refine aL rfl ?_|refine aH rfl kt ?_|refine aH rfl kl ?_)
  refine cW rfl rfl rfl rfl rfl my kf ?_
  repeat' (first|refine zA rfl ?_|refine aA ?_|refine aL rfl ?_|refine aH rfl kl ?_|refine aH rfl kc ?_)
  exact⟨rfl,_,rfl,_,rfl,aI.of_closed (bW _)⟩
theorem J5:∀l:List Pr,(∀(j:Nat) a b,l[j]? =some a→l[j+1]? =some b→bI a.key b.key=true)→bT l
 |[],_=>List.Pairwise.nil
 |[a],_=>List.pairwise_cons.2 ⟨by simp,List.Pairwise.nil⟩
 |a::b::r,h=>by
  have ih:=J5 (b::r) (fun j x y hx hy=>h (j+1) x y hx hy)
  have h0:=h 0 a b rfl rfl
  refine List.pairwise_cons.2 ⟨fun x hx=>?_,ih⟩
  rcases List.mem_cons.1 hx with rfl|hx
  ·exact h0
  ·exact j8 h0 ((List.pairwise_cons.1 ih).1 x hx)
theorem a1m {l:List Pr} (h:bT l) {i j:Nat} {a b:Pr} (hij:i < j) (ha:l[i]? =some a) (hb:l[j]? =some b):bI a.key b.key=true:=by
 obtain⟨h1,rfl⟩:=List.getElem?_eq_some_iff.1 ha
 obtain⟨h2,rfl⟩:=List.getElem?_eq_some_iff.1 hb
 exact List.pairwise_iff_getElem.1 h i j h1 h2 hij
noncomputable def mX (t:Tr) (p:Pr):Tr:=if h:t.all.length < 10000000 then Classical.choose (FT t p h) else t
theorem K6 {t:Tr} {p:Pr} (h:t.all.length < 10000000):(mX t p).all=cQ t.all p:=by
 unfold mX
 rw[dif_pos h]
 exact (Classical.choose_spec (FT t p h)).1
theorem PZ {t:Tr} {p:Pr} (h:t.all.length < 10000000):aO Tryz.prog 108 [t.av,p.av] (mX t p).av:=by
 unfold mX
 rw[dif_pos h]
 exact (Classical.choose_spec (FT t p h)).2
noncomputable def gL (l:List Pr):Tr:=l.foldl mX a0t
def OW (l:List Pr):List Pr:=l.foldl cQ []
theorem K5:∀(l:List Pr) (t:Tr),t.all.length+l.length < 10000000→(l.foldl mX t).all=l.foldl cQ t.all∧(l.foldl mX t).all.length≤t.all.length+l.length
 |[],t,_=>⟨rfl,Nat.le_refl _⟩
 |p::r,t,h=>by
  simp only[List.length_cons] at h
  have h1:(mX t p).all=cQ t.all p:=K6 (by omega)
  have h2:=(jX t.all p).2.1
  obtain⟨h3,h4⟩:=K5 r (mX t p) (by rw[h1];omega)
  refine⟨?_,?_⟩
  ·show (r.foldl mX (mX t p)).all=r.foldl cQ (cQ t.all p)
   rw[h3,h1]
  ·show (r.foldl mX (mX t p)).all.length≤_
   rw[h1] at h4
   simp only[List.length_cons]
   omega
theorem IJ {l:List Pr} (h:l.length < 1000000):(gL l).all=OW l∧(OW l).length≤l.length:=by
 obtain⟨h1,h2⟩:=K5 l a0t (by show 0+l.length < _;omega)
 have h1:(gL l).all=OW l:=h1
 refine⟨h1,?_⟩
 rw[←h1]
 have h2:(gL l).all.length≤0+l.length:=h2
 omega
theorem NB {l:List Pr} {i:Nat} {x:Pr} (ht:l.take (i+1)=l.take i++[x]):gL (l.take (i+1))=mX (gL (l.take i)) x:=by
 unfold gL
 rw[ht,List.foldl_append]
 rfl
end Go.Proofs.YteliblifgdofgaaGreatDoor
namespace Go.Ab
def a14:cH→Prop
 |.ret x=>aN x
 |.pan x=>aN x
def aBo (k:Nat):cH→cH→Prop
 |.ret x,.ret y=>aI k x y
 |.pan x,.pan y=>aI k x y
 |_,_=>False
def N1 (P:Program) (g:FuncId) (args:List AV) (r:cH):Prop:=∀M,aQ P g args M fun e N=>e=r∧N=M
theorem tA {P:Program} {g:FuncId} {args:List AV} {r:cH} (ha:∀x,x∈args→aN x) (hr:a14 r) (h:aQ P g args ⟨0,[]⟩ fun e _=>aBo 0 e r):N1 P g args r:=by
 intro M
 refine sS (R:=fun e=>e=r) ha ?_ (fun e he=>by subst he;cases e<;>exact hr) M
 refine aQ.mono (h.joint (R':=fun e _=>e=r) ?_ ?_) (fun e M he=>he)
 ·intro x M' hs
  cases r with
  |pan y=>exact hs.elim
  |ret y=>exact⟨y,⟨0,[]⟩,rfl,aR.cut (Nat.le_refl _) (Nat.zero_le _) rfl ⟨hs,trivial⟩ trivial⟩
 ·intro x M' hs
  cases r with
  |ret y=>exact hs.elim
  |pan y=>exact⟨y,⟨0,[]⟩,rfl,aR.cut (Nat.le_refl _) (Nat.zero_le _) rfl ⟨hs,trivial⟩ trivial⟩
section
variable {P:Program} {τ:Tab} {ops:Array Oper} {cls:Nat→fQ} {Q:AX→AF→aG→Prop} {ds:List bJ} {ls:List Nat} {i:Nat} {t:List (Nat×AV)} {M:aG}
theorem AZ {dst:Option Nat} {g:FuncId} {args:List AV} {x:AV} (hs:CG ops ds i t=some (dst,g,args)) (hc:n7 (cls i)=true) (hk:N1 P g args (.pan x)) (h:Q (.panic x) ⟨dD ds,ds⟩ M):DW P ops cls Q ds (i::ls) t M:=by
 cases dst with
 |some d=>exact bS hs hc (hk M) (fun u M' he=>by cases he.1) (fun u M' he=>by obtain⟨e,rfl⟩:=he;cases e;exact h)
 |none=>exact a69 hs hc (hk M) (fun u M' he=>by cases he.1) (fun u M' he=>by obtain⟨e,rfl⟩:=he;cases e;exact h)
end
theorem B1 {P:Program} {τ:Tab} (hτ:TabOK P τ) {g:FuncId} {fn:Func} {c:Code} (hf:P.funcs[g]? =some fn) (hb:fn.body=some c) (hn:fn.name≠ "runtime.NumGoroutine") {args:List AV} {m:kE} {M:aG} {R:aG→Prop}
  (hlen:args.length≤fn.ntmps) (h:W none P fn.ntmps c (QD τ fn R) (pW args) M):bF P g args m M (fun m' M'=>m'=m∧R M'):=by
 refine⟨⟨fn,c,hf,hb,hn⟩,fun μ F w vs u hg hv hm=>?_⟩
 have hr:=lI (μ:=μ) (F:=F) (w:=w) hlen hv
 refine (callsD_of_wp (R:=fun e w'=>(∃v,e=.returned v)∧∃μ' M',dQ w μ w' μ'∧dY μ' F M' w'∧R M') hf hb ?_).mono ?_
 ·refine wp_mono (yM (h.run μ F w _ hg hr)) ?_
  rintro e a' w' ⟨μ',f',M',x,h1,h2,h3,h4,h5⟩
  cases e with
  |normal=>
   cases x<;>first|exact h4.elim|skip
   obtain⟨k1,⟨r,k2⟩,k3⟩:=h5
   obtain⟨v',hv',_⟩:=jA (P:=P) hτ h2 h3 k2
   have hdd:=h3.defs
   rw[k1] at hdd
   exact⟨fN hdd,v',hv',⟨v',rfl⟩,μ',M',h1,h2,k3⟩
  |ret=>
   cases x<;>first|exact h4.elim|skip
   obtain⟨k1,⟨r,k2⟩,k3⟩:=h5
   obtain⟨v',hv',_⟩:=jA (P:=P) hτ h2 h3 k2
   have hdd:=h3.defs
   rw[k1] at hdd
   exact⟨fN hdd,v',hv',⟨v',rfl⟩,μ',M',h1,h2,k3⟩
  |exit id=>cases x<;>first|exact h4.elim|exact h5.elim
  |goto l=>cases x<;>exact h4.elim
  |panic ch=>cases x<;>first|exact h4.elim|exact h5.elim
  |outgrown=>cases x<;>exact h4.elim
 ·rintro e u' w' ⟨rfl,hv,μ',M',h1,h2,h3⟩
  refine⟨hv,μ',M',m,h1,h2,?_,rfl,h3⟩
  cases m with
  |ret=>rw[show u'=.returning from hm];rfl
  |pan x=>
   obtain⟨v,rfl,hx⟩:=hm
   exact⟨v,rfl,hx.evo h1⟩
def CK (k:Nat):List bJ→Prop
 |[]=>True
 |d::r=>d.mark=none∧(∀x,x∈d.cap→aI k x x)∧(∀x,x∈d.args→aI k x x)∧(∀p,p∈d.keep→aI k p.2 p.2)∧CK k r
theorem IP {μ:Mu} {F:c8} {w:World} {k:Nat} {l:List AV} {c:Array Value} (h:cN μ F w l c) (hl:∀x,x∈l→aI k x x):cN (cut μ k) F w l c:=
 ⟨h.1,fun i x v hx hv=>hl x (List.mem_of_getElem? hx) μ F w v (h.2 i x v hx hv)⟩
theorem xD {μ:Mu} {F:c8} {w:World} {k:Nat}:∀{l:List bJ} {r:List Deferred},CK k l→fM μ F w l r→fM (cut μ k) F w l r
 |[],[],_,_=>trivial
 |[],_::_,_,h=>h.elim
 |_::_,[],_,h=>h.elim
 |d::l,_::r,⟨h0,h1,h2,_,h4⟩,⟨⟨g1,g2,g3⟩,g4⟩=>
  ⟨⟨fun h=>(g1 h).imp fun _ h=>⟨h.1,IP h.2 h1⟩,IP g2 h2,fun y hy=>by rw[h0] at hy;cases hy⟩,xD h4 g4⟩
theorem a4x {k:Nat}:∀{l:List bJ},CK k l→∀p,p∈dD l→aI k p.2 p.2
 |[],_,_,h=>by cases h
 |d::l,⟨_,_,_,h3,h4⟩,p,h=>by
  rcases List.mem_append.1 h with h|h
  ·exact h3 p h
  ·exact a4x h4 p h
theorem aR.cutD {n0:Nat} {f:AF} {M:aG} {k:Nat} (hk:n0≤k) (hk2:k≤M.next) {t:List (Nat×AV)} {l:List (Nat×c7)} (hd:CK k f.d) (ht:BV k f t) (ho:gE k M l):aR n0 f M ⟨t,f.d⟩ ⟨k,l⟩:=by
 intro μ0 μ F w0 w n a hn he hg hr
 exact⟨Go.Ab.cut μ k,EC he (fun id h=>Nat.lt_of_lt_of_le (hn id h) hk),F6 hg hk2 ho,hr.size,fun i=>u4 ht i μ F w _ (hr.tmps i),xD hd hr.defs,fun p hp=>a4x hd p hp μ F w _ (hr.kept p hp)⟩
end Go.Ab
namespace Go.Proofs.YteliblifgdofgaaGreatDoor
open Go.Ab
def kJ (k:Ky):Bool:=bN k.path&&decide (0≤k.time)&&decide (k.time≤1000000000)
theorem AT (k:Ky) (hs:k.path.length < 1000000):aO Tryz.prog 160 [k.av] (.bool (kJ k)):=by
 intro M
 refine aC aF Tryz.func160 rfl (by decide) (by simp[Tryz.f160]) ?_
 have kp:=gV k.path (by omega)
 unfold kJ
 cases h1:bN k.path
 ·rw[h1] at kp
  repeat' (first|refine zA rfl ?_|refine aA ?_|refine aL rfl ?_|refine aH rfl kp ?_)
  exact⟨rfl,_,rfl,rfl,rfl⟩
 ·rw[h1] at kp
  cases h2:decide (0≤k.time)
  ·repeat' (first|refine zB rfl h2 ?_|refine zA rfl ?_|refine aA ?_|refine aL rfl ?_|refine aH rfl kp ?_)
   exact⟨rfl,_,rfl,rfl,rfl⟩
  ·repeat' (first|refine zB rfl h2 ?_|refine zA rfl ?_|refine aA ?_|refine aL rfl ?_|refine aH rfl kp ?_)
   exact⟨rfl,_,rfl,rfl,rfl⟩
def a58:Ky:=⟨[],0⟩
def a97 (x:Ky×Int):AV:=.tup [x.1.av,.int .i64 x.2]
theorem qW (x:Ky×Int):aN (a97 x):=aS (aV (bU (aV aP aB)) aB)
theorem a7a (t:Int):(if false=true then (if t < 1000000000 then 1000000000 else t) else if 1000000000 < t then 1000000000 else t)=min t 1000000000:=by
 rw[if_neg (by simp)]
 split<;>omega
def L9 (p:aD) (t:Int):Ky×Int:=if kJ ⟨p,min t 1000000000⟩=true then (⟨p,min t 1000000000⟩,0) else (a58,1)
theorem T4 (p:aD) (t:Int) (hs:p.length < 1000000):aO Tryz.prog 113 [.str p,.int .i64 t] (a97 (L9 p t)):=by
 refine aU (aV aP aB) (qW _) ?_
 refine aC aF Tryz.func113 rfl (by decide) (by simp[Tryz.f113]) ?_
 unfold L9
 have ki:=AT ⟨p,min t 1000000000⟩ hs
 have mn:=a7a t
 cases hk:kJ ⟨p,min t 1000000000⟩
 ·rw[hk] at ki
  repeat' (first|refine zI rfl mn ?_|refine zA rfl ?_|refine aA ?_|refine aL rfl ?_|refine aH rfl ki ?_)
  exact⟨rfl,_,rfl,_,rfl,aI.of_closed (qW (a58,1))⟩
 ·rw[hk] at ki
  repeat' (first|refine zI rfl mn ?_|refine zA rfl ?_|refine aA ?_|refine aL rfl ?_|refine aH rfl ki ?_)
  exact⟨rfl,_,rfl,_,rfl,aI.of_closed (qW (⟨p,min t 1000000000⟩,0))⟩
structure Vr where
 key:Ky
 meta_:Mt
 gone:Bool
def Vr.cells (v:Vr):List AV:=[.str v.key.path,.int .i64 v.key.time,.int .i64 v.meta_.size,.int .i64 v.meta_.mode,iA v.meta_.ch .none,.bool v.gone]
def Vr.av (v:Vr):AV:=.agg v.cells
theorem AS (v:Vr):∀x,x∈v.cells→aN x:=by
 intro x hx
 simp[Vr.cells] at hx
 rcases hx with rfl|rfl|rfl|rfl|rfl|rfl
 ·exact aP
 ·exact aB
 ·exact aB
 ·exact aB
 ·exact gU _ (.inl rfl)
 ·exact aK
theorem vD (v:Vr):aN v.av:=bU (AS v)
def B2 (p:Pr):Bool:=decide ((bY p.val).2.2=0)&&kJ p.key&&!(p.key.path==[])
def IV (p:Pr):Vr:=⟨p.key,(bY p.val).1,(bY p.val).2.1⟩
def dZ (l:List Pr):Bool:=l.all B2
theorem sM:aO Tryz.prog 71 [.int .i64 0] (.tup []):=by
 intro M
 refine aC aF Tryz.func71 rfl (by decide) (by simp[Tryz.f71]) ?_
 repeat' (first|refine zA rfl ?_|refine aA ?_|refine aL rfl ?_)
 exact⟨rfl,_,rfl,rfl,rfl⟩
theorem rZ (p:Pr) (hk:p.key.path.length < 1000000) (hv:p.val.length < 1000000) (h:B2 p=true):aO Tryz.prog 115 [p.av] (IV p).av:=by
 refine aU (aX (iW p)) (vD _) ?_
 refine aC aF Tryz.func115 rfl (by decide) (by simp[Tryz.f115]) ?_
 have kr:=wP p.val hv
 have kk:=AT p.key hk
 unfold B2 at h
 unfold IV
 generalize bY p.val=x at h kr
 obtain⟨m,g,e⟩:=x
 simp at h
 obtain⟨⟨he,h2⟩,h3⟩:=h
 subst he
 rw[h2] at kk
 have d3:(p.key.path==[])=false:=by simp[h3]
 repeat' (first|refine zB rfl d3 ?_|refine zA rfl ?_|refine aA ?_|refine aL rfl ?_|refine aH rfl kr ?_|refine aH rfl kk ?_)
 exact⟨rfl,_,rfl,_,rfl,aI.of_closed (vD ⟨p.key,m,g⟩)⟩
theorem a2q (p:Pr) (hk:p.key.path.length < 1000000) (hv:p.val.length < 1000000) (h:B2 p=false):N1 Tryz.prog 115 [p.av] (.pan (kN 1)):=by
 refine tA (aX (iW p)) (cI 1) ?_
 refine aC aF Tryz.func115 rfl (by decide) (by simp[Tryz.f115]) ?_
 have kr:=wP p.val hv
 have kk:=AT p.key hk
 unfold B2 at h
 generalize bY p.val=x at h kr
 obtain⟨m,g,e⟩:=x
 by_cases he:e=0
 ·subst he
  cases h2:kJ p.key
  ·rw[h2] at kk
   repeat' (first|refine zA rfl ?_|refine aA ?_|refine aL rfl ?_|refine aH rfl kr ?_|refine aH rfl kk ?_)
   refine dR rfl rfl rfl rfl rfl ?_
   exact⟨rfl,aI.of_closed (cI 1)⟩
  ·rw[h2] at kk h
   simp at h
   have d3:(p.key.path==[])=true:=by simp[h]
   repeat' (first|refine zB rfl d3 ?_|refine zA rfl ?_|refine aA ?_|refine aL rfl ?_|refine aH rfl kr ?_|refine aH rfl kk ?_)
   refine dR rfl rfl rfl rfl rfl ?_
   exact⟨rfl,aI.of_closed (cI 1)⟩
 ·have d1:(!decide (e=0))=true:=by simp[he]
  repeat' (first|refine zB rfl d1 ?_|refine zA rfl ?_|refine aA ?_|refine aL rfl ?_|refine aH rfl kr ?_)
  refine dR rfl rfl rfl rfl rfl ?_
  exact⟨rfl,aI.of_closed (cI 1)⟩
def PO (nx:Nat) (n:Int):aG:=⟨nx,[(0,.cells [.int .i64 n])]⟩
def cm1 (nx:Nat) (o:c7) (n:Int):aG:=⟨nx,[(0,o),(1,.cells [.int .i64 n])]⟩
theorem XI (nx:Nat) (n e:Int):bF Tryz.prog 68 [.ptr 0 0] (.pan (kN e)) (PO nx n) (fun m' M'=>m'=.ret∧M'.next=nx∧M'.get 0=some (.cells [.int .i64 e])):=by
 refine bX aF Tryz.func68 rfl (by decide) rfl rfl rfl rfl rfl (by simp[Tryz.f68]) ?_
 refine c4 aF rfl rfl rfl rfl rfl ?_
 repeat' (first|refine zA rfl ?_|refine aA ?_|refine aL rfl ?_)
 exact⟨rfl,⟨_,rfl⟩,rfl,rfl⟩
theorem a5a (nx:Nat) (n:Int):bF Tryz.prog 68 [.ptr 0 0] .ret (PO nx n) (fun m' M'=>m'=.ret∧M'.next=nx∧M'.get 0=some (.cells [.int .i64 n])):=by
 refine bX aF Tryz.func68 rfl (by decide) rfl rfl rfl rfl rfl (by simp[Tryz.f68]) ?_
 refine c4 aF rfl rfl rfl rfl rfl ?_
 repeat' (first|refine zA rfl ?_|refine aA ?_|refine aL rfl ?_)
 exact⟨rfl,⟨_,rfl⟩,rfl,rfl⟩
theorem a6h (nx:Nat) (o:c7) (n e:Int):bF Tryz.prog 68 [.ptr 1 0] (.pan (kN e)) (cm1 nx o n) (fun m' M'=>m'=.ret∧M'.next=nx∧M'.get 0=some o∧M'.get 1=some (.cells [.int .i64 e])):=by
 refine bX aF Tryz.func68 rfl (by decide) rfl rfl rfl rfl rfl (by simp[Tryz.f68]) ?_
 refine c4 aF rfl rfl rfl rfl rfl ?_
 repeat' (first|refine zA rfl ?_|refine aA ?_|refine aL rfl ?_)
 exact⟨rfl,⟨_,rfl⟩,rfl,rfl,rfl⟩
theorem aA0 (nx:Nat) (o:c7) (n:Int):bF Tryz.prog 68 [.ptr 1 0] .ret (cm1 nx o n) (fun m' M'=>m'=.ret∧M'.next=nx∧M'.get 0=some o∧M'.get 1=some (.cells [.int .i64 n])):=by
 refine bX aF Tryz.func68 rfl (by decide) rfl rfl rfl rfl rfl (by simp[Tryz.f68]) ?_
 refine c4 aF rfl rfl rfl rfl rfl ?_
 repeat' (first|refine zA rfl ?_|refine aA ?_|refine aL rfl ?_)
 exact⟨rfl,⟨_,rfl⟩,rfl,rfl,rfl⟩
def eS (d s:aD):Bool:=bN d&&bN s&&(d==[]||d==s||jN s (d++[47]))
theorem VL (d s:aD) (hd:d.length < 1000000) (hs:s.length < 1000000):aO Tryz.prog 158 [.str d,.str s] (.bool (eS d s)):=by
 intro M
 refine aC aF Tryz.func158 rfl (by decide) (by simp[Tryz.f158]) ?_
 have k1:=gV d (by omega)
 have k2:=gV s (by omega)
 have k3:=FE s (d++[47])
 unfold eS
 cases h1:bN d
 ·rw[h1] at k1
  repeat' (first|refine zA rfl ?_|refine aA ?_|refine aL rfl ?_|refine aH rfl k1 ?_)
  exact⟨rfl,_,rfl,rfl,rfl⟩
 ·rw[h1] at k1
  cases h2:bN s
  ·rw[h2] at k2
   repeat' (first|refine zA rfl ?_|refine aA ?_|refine aL rfl ?_|refine aH rfl k1 ?_|refine aH rfl k2 ?_)
   exact⟨rfl,_,rfl,rfl,rfl⟩
  ·rw[h2] at k2
   cases h3:d==[]
   ·cases h4:d==s
    ·repeat' (first|refine zB rfl (by first|exact h3|exact h4) ?_|refine zA rfl ?_|refine aA ?_|refine aL rfl ?_|refine aH rfl k1 ?_|refine aH rfl k2 ?_)
     refine CU rfl rfl rfl rfl rfl rfl (by simp;omega) ?_
     repeat' (first|refine zA rfl ?_|refine aA ?_|refine aL rfl ?_|refine aH rfl k3 ?_)
     exact⟨rfl,_,rfl,yD (by simp),rfl⟩
    ·repeat' (first|refine zB rfl (by first|exact h3|exact h4) ?_|refine zA rfl ?_|refine aA ?_|refine aL rfl ?_|refine aH rfl k1 ?_|refine aH rfl k2 ?_)
     exact⟨rfl,_,rfl,rfl,rfl⟩
   ·repeat' (first|refine zB rfl h3 ?_|refine zA rfl ?_|refine aA ?_|refine aL rfl ?_|refine aH rfl k1 ?_|refine aH rfl k2 ?_)
    exact⟨rfl,_,rfl,rfl,rfl⟩
def fnU (dir:aD):AV:=.fn (.func 157) [] [.ref [.str dir]]
theorem rD (dir:aD):aN (fnU dir):=DJ (by simp) (aX (fX (aX aP)))
def jH (t:Tr) (dir:aD) (l:List Pr):List AV:=[t.av,fnU dir,.sl 3 (l.map Pr.av) .none]
theorem fE (t:Tr) (dir:aD) (l:List Pr):∀x,x∈jH t dir l→aN x:=bK (bG t) (rD dir) (bW l)
def pE (t:Tr) (dir:aD) (l:List Pr):aG:=⟨1,[(0,.cells (jH t dir l))]⟩
def Q8 (t:Tr) (dir:aD) (l:List Pr) (e:cH) (N:aG) (r:cH):Prop:=e=r∧N=pE t dir l
theorem a05 (dir:aD):aO Tryz.prog 110 [.str dir] (fnU dir):=by
 refine aU (aX aP) (rD dir) ?_
 refine aC aF Tryz.func110 rfl (by decide) (by simp[Tryz.f110]) ?_
 repeat' (first|refine zA rfl ?_|refine aA ?_|refine aL rfl ?_)
 exact⟨rfl,_,rfl,_,rfl,aI.of_closed (rD dir)⟩
theorem RV (p:Pr) (dir:aD) (hp:p.key.path.length < 1000000) (hd:dir.length < 1000000):aO Tryz.prog 157 [p.av,.ref [.str dir]] (.bool (eS dir p.key.path)):=by
 intro M
 refine aC aF Tryz.func157 rfl (by decide) (by simp[Tryz.f157]) ?_
 have k:=VL dir p.key.path hd hp
 repeat' (first|refine zA rfl ?_|refine aA ?_|refine aL rfl ?_|refine aH rfl k ?_)
 exact⟨rfl,_,rfl,rfl,rfl⟩
theorem ER (t:Tr) (hs:t.all.length < 10000000) (dir:aD) (hd:dir.length < 1000000) (hp:bN dir=true):aQ Tryz.prog 70 [t.av,.str dir] ⟨0,[]⟩ (fun e N=>Q8 t dir t.all e N (.ret (.tup [.ptr 0 0,.int .i64 0]))):=by
 refine aC aF Tryz.func70 rfl (by decide) (by simp[Tryz.f70]) ?_
 have k1:=gV dir (by omega)
 rw[hp] at k1
 have k2:=a05 dir
 have k3:=sE t hs
 unfold Tr.av at k3 ⊢
 repeat' (first|refine iT 15 aF rfl ?_|refine zA rfl ?_|refine aA ?_|refine aL rfl ?_|refine aH rfl k1 ?_|refine aH rfl k2 ?_|refine aH rfl k3 ?_)
 exact⟨rfl,_,rfl,rfl,rfl⟩
def cK (dir:aD) (l:List Pr):List Pr:=l.dropWhile fun p=>!eS dir p.key.path
def mK (l:List Pr):Prop:=∀p,p∈l→p.key.path.length < 1000000
theorem qZ {dir:aD} {p:Pr} {l:List Pr} (h:eS dir p.key.path=false):cK dir (p::l)=cK dir l:=by
 unfold cK
 rw[List.dropWhile_cons,if_pos (by rw[h];rfl)]
theorem oO {dir:aD} {p:Pr} {l:List Pr} (h:eS dir p.key.path=true):cK dir (p::l)=p::l:=by
 unfold cK
 rw[List.dropWhile_cons,if_neg (by rw[h];simp)]
theorem iY (dir:aD) (l:List Pr):(cK dir l).Sublist l:=List.dropWhile_sublist _
theorem a4s (t:Tr) (dir:aD) (hd:dir.length < 1000000) (l:List Pr) (hl:mK l):aQ Tryz.prog 112 [.ptr 0 0] (pE t dir l) (fun e N=>Q8 t dir (cK dir l) e N (.ret (.bool (decide (0 < ((cK dir l).length:Int)))))):=by
 refine aC aF Tryz.func112 rfl (by decide) (by simp[Tryz.f112]) ?_
 unfold pE jH Tr.av fnU
 repeat' (first|refine zA rfl ?_|refine aA ?_|refine aL rfl ?_)
 refine lB (fun k f N=>∃m:List Pr,m.length=k∧cK dir m=cK dir l∧mK m∧N=⟨1,[(0,.cells [t.av,.fn (.func 157) [] [.ref [.str dir]],.sl 3 (m.map Pr.av) .none])]⟩∧f=⟨[(0,.ptr 0 0)],[]⟩) (k:=l.length) ⟨l,rfl,rfl,hl,rfl,rfl⟩ (aR.le ?_ (aG.le_refl _)) ?_
 ·skip
  repeat (refine AF.le_cons rfl ?_)
  exact AF.le_nil rfl
 rintro k f N ⟨m,rfl,hm,hsm,rfl,rfl⟩
 unfold Tr.av
 cases m with
 |nil=>
  have e:cK dir l=[]:=hm.symm
  rw[e]
  repeat' (first|refine zA rfl ?_|refine aA ?_|refine aL rfl ?_|refine wS aF rfl ?_)
  exact⟨rfl,_,rfl,rfl,rfl⟩
 |cons p r=>
  have la:(((p::r).map Pr.av).length:Int)=((r.length+1:Nat):Int):=by simp
  have d1:decide ((0:Int) < ((r.length+1:Nat):Int))=true:=decide_eq_true (by omega)
  have ku:=RV p dir (hsm p (by simp)) hd
  cases hu:eS dir p.key.path
  ·rw[hu] at ku
   repeat' (first|refine zB rfl d1 ?_|refine zI rfl la ?_|refine zA rfl ?_|refine aA ?_|refine aL rfl ?_|refine aH rfl ku ?_|refine zX rfl (⟨Int.le_refl 0,rfl⟩) ?_|refine wS aF rfl ?_|refine aW mixed [0,4,1,2,3,5,6,7,8,9,10] [.P,.R,.R,.R,.P,.R,.R,.R,.R,.R,.P] rfl rfl (by kernel_rfl) ?_)
   refine gO aF rfl rfl rfl rfl (lo:=1) (l:=p::r) rfl rfl rfl rfl rfl rfl (by simp) ?_
   repeat' (first|refine zA rfl ?_|refine aA ?_)
   exact⟨r.length,_,_,by simp,⟨r,rfl,(qZ hu).symm.trans hm,fun q hq=>hsm q (by simp[hq]),rfl,rfl⟩,aR.le (AF.le_cons rfl (AF.le_nil rfl)) (aG.le_cons rfl (aG.le_nil rfl))⟩
  ·rw[hu] at ku
   have e:cK dir l=p::r:=hm.symm.trans (oO hu)
   rw[e,show decide (0 < (((p::r).length:Nat):Int))=true from decide_eq_true (by simp)]
   repeat' (first|refine zB rfl d1 ?_|refine zI rfl la ?_|refine zA rfl ?_|refine aA ?_|refine aL rfl ?_|refine aH rfl ku ?_|refine zX rfl (⟨Int.le_refl 0,rfl⟩) ?_|refine wS aF rfl ?_|refine aW mixed [0,4,1,2,3,5,6,7,8,9,10] [.P,.R,.R,.R,.P,.R,.R,.R,.R,.R,.P] rfl rfl (by kernel_rfl) ?_)
   exact⟨rfl,_,rfl,rfl,rfl⟩
theorem iV {t:Tr} {dir:aD} {l l':List Pr} {g:FuncId} {args args1:List AV} {r:AV} {M:aG} {R:cH→aG→Prop} (id:Nat) (hM:M.get id=some (.cells (jH t dir l))) (hlt:id < M.next)
  (h:aQ Tryz.prog g args1 (pE t dir l) fun e N=>Q8 t dir l' e N (.ret r)) (hr:aN r) (hargs:B0 [id] args args1) (hR:R (.ret r) (M.set id (.cells (jH t dir l')))):aQ Tryz.prog g args M R:=by
 refine aQ.frame1 (R1:=fun e d=>e=.ret r∧d=jH t dir l') id hM hlt (fE t dir l) (h.mono ?_) hargs ?_
 ·rintro e N ⟨h1,rfl⟩
  exact⟨rfl,_,rfl,h1,rfl⟩
 ·rintro e d ⟨h1,rfl⟩
  subst h1
  exact⟨hr,fE t dir l',hR⟩
theorem OK {t:Tr} {dir:aD} {l l':List Pr} {g:FuncId} {args:List AV} {r:AV} (hr:aN r) (h:aQ Tryz.prog g args (pE t dir l) fun e N=>e=.ret r∧1≤N.next∧N.get 0=some (.cells (jH t dir l'))):
  aQ Tryz.prog g args (pE t dir l) fun e N=>Q8 t dir l' e N (.ret r):=by
 refine (aQ.cutL (r:=r) (l:=[(0,.cells (jH t dir l'))]) (h.mono ?_)).mono ?_
 ·rintro e N ⟨h1,h2,h3⟩
  exact⟨r,h1,aI.of_closed hr,h2,cG (Nat.zero_lt_one) h3 (fE t dir l') trivial⟩
 ·rintro e N ⟨rfl,rfl⟩
  exact⟨rfl,rfl⟩
def a5o:Pr:=⟨⟨[],0⟩,[]⟩
def pb (x:Pr×Bool):AV:=.tup [x.1.av,.bool x.2]
theorem v8 (x:Pr×Bool):aN (pb x):=aS (aV (iW _) aK)
def A8 (l:List Pr):(Pr×Bool)×List Pr:=match l with
 |[]=>((a5o,false),[])
 |p::r=>((p,true),r)
theorem U5 (t:Tr) (dir:aD) (hd:dir.length < 1000000) (l:List Pr) (hl:mK l):aQ Tryz.prog 196 [.ptr 0 0] (pE t dir l) (fun e N=>e=.ret (pb (A8 (cK dir l)).1)∧1≤N.next∧N.get 0=some (.cells (jH t dir (A8 (cK dir l)).2))):=by
 refine aC aF Tryz.func196 rfl (by decide) (by simp[Tryz.f196]) ?_
 have ko:=a4s t dir hd l hl
 repeat' (first|refine zA rfl ?_|refine aA ?_|refine aL rfl ?_)
 refine bS rfl rfl (iV (R:=fun e N=>e=.ret (.bool (decide (0 < ((cK dir l).length:Int))))∧N=⟨2,[(0,.cells (jH t dir (cK dir l))),(1,.cells [.str [],.int .i64 0,.str []]),(0,.cells (jH t dir l))]⟩) 0 rfl (Nat.zero_lt_succ _) ko aK ⟨kP.ptr rfl,trivial⟩ ⟨rfl,rfl⟩) ?_ (fun u M' h=>by cases h.1)
 rintro u N ⟨e,rfl⟩
 cases e
 unfold jH Tr.av
 cases hs:cK dir l with
 |nil=>
  repeat' (first|refine zA rfl ?_|refine aA ?_|refine aL rfl ?_)
  exact⟨rfl,_,rfl,rfl,Nat.le_add_left 1 _,rfl⟩
 |cons p r=>
  rw[show decide (0 < (((p::r).length:Nat):Int))=true from decide_eq_true (by simp)]
  repeat' (first|refine zA rfl ?_|refine aA ?_|refine aL rfl ?_|refine zX rfl (⟨Int.le_refl 0,rfl⟩) ?_)
  refine gO aF rfl rfl rfl rfl (lo:=1) (l:=p::r) rfl rfl rfl rfl rfl rfl (by simp) ?_
  repeat' (first|refine zA rfl ?_|refine aA ?_|refine aL rfl ?_)
  exact⟨rfl,_,rfl,rfl,Nat.le_add_left 1 _,rfl⟩
theorem a1p (t:Tr) (dir:aD) (hd:dir.length < 1000000) (l:List Pr) (hl:mK l):aQ Tryz.prog 196 [.ptr 0 0] (pE t dir l) fun e N=>Q8 t dir (A8 (cK dir l)).2 e N (.ret (pb (A8 (cK dir l)).1)):=
 OK (v8 _) (U5 t dir hd l hl)
def dM (p:aD) (l:List Pr):List Pr:=l.dropWhile fun q=>q.key.path==p
def sb (x:aD×Bool):AV:=.tup [.str x.1,.bool x.2]
theorem pD (x:aD×Bool):aN (sb x):=aS (aV aP aK)
def AO (l:List Pr):(aD×Bool)×List Pr:=match l with
 |[]=>(([],false),[])
 |p::r=>((p.key.path,true),dM p.key.path (p::r))
theorem YA (t:Tr) (dir:aD) (hd:dir.length < 1000000) (l:List Pr) (hl:mK l):aQ Tryz.prog 72 [.ptr 0 0] (pE t dir l) (fun e N=>e=.ret (sb (AO (cK dir l)).1)∧1≤N.next∧N.get 0=some (.cells (jH t dir (AO (cK dir l)).2))):=by
 refine aC aF Tryz.func72 rfl (by decide) (by simp[Tryz.f72]) ?_
 have ko:=a4s t dir hd l hl
 repeat' (first|refine zA rfl ?_|refine aA ?_|refine aL rfl ?_)
 refine bS rfl rfl (iV (R:=fun e N=>e=.ret (.bool (decide (0 < ((cK dir l).length:Int))))∧N=⟨1,[(0,.cells (jH t dir (cK dir l))),(0,.cells (jH t dir l))]⟩) 0 rfl (Nat.zero_lt_succ _) ko aK ⟨kP.ptr rfl,trivial⟩ ⟨rfl,rfl⟩) ?_ (fun u M' h=>by cases h.1)
 rintro u N ⟨e,rfl⟩
 cases e
 unfold jH Tr.av
 cases hs:cK dir l with
 |nil=>
  repeat' (first|refine zA rfl ?_|refine aA ?_|refine aL rfl ?_)
  exact⟨rfl,_,rfl,rfl,Nat.le_refl _,rfl⟩
 |cons p r=>
  rw[show decide (0 < (((p::r).length:Nat):Int))=true from decide_eq_true (by simp)]
  repeat' (first|refine zA rfl ?_|refine aA ?_|refine aL rfl ?_|refine zX rfl (⟨Int.le_refl 0,rfl⟩) ?_)
  refine lB (fun k f N=>∃m:List Pr,m.length=k∧dM p.key.path m=dM p.key.path (p::r)∧N=pE t dir m∧f=⟨[(0,.ptr 0 0),(4,.str p.key.path)],[]⟩) (k:=(p::r).length) ⟨p::r,rfl,rfl,rfl,rfl⟩ (aR.le ?_ (aG.le_cons rfl (aG.le_nil rfl))) ?_
  ·skip
   repeat (refine AF.le_cons rfl ?_)
   exact AF.le_nil rfl
  rintro k f N ⟨m,rfl,hm,rfl,rfl⟩
  unfold pE jH Tr.av
  cases m with
  |nil=>
   repeat' (first|refine zA rfl ?_|refine aA ?_|refine aL rfl ?_)
   refine⟨rfl,_,rfl,rfl,Nat.le_refl _,?_⟩
   show _=some (c7.cells (jH t dir (dM p.key.path (p::r))))
   rw[←hm]
   rfl
  |cons q s=>
   have la:(((q::s).map Pr.av).length:Int)=((s.length+1:Nat):Int):=by simp
   have d1:decide ((0:Int) < ((s.length+1:Nat):Int))=true:=decide_eq_true (by omega)
   cases hq:q.key.path==p.key.path
   ·have e:dM p.key.path (q::s)=q::s:=by unfold dM;rw[List.dropWhile_cons,if_neg (by rw[hq];simp)]
    repeat' (first|refine zB rfl (by first|exact d1|exact hq) ?_|refine zI rfl la ?_|refine zA rfl ?_|refine aA ?_|refine aL rfl ?_|refine zX rfl (⟨Int.le_refl 0,rfl⟩) ?_)
    refine⟨rfl,_,rfl,rfl,Nat.le_refl _,?_⟩
    show _=some (c7.cells (jH t dir (dM p.key.path (p::r))))
    rw[←hm,e]
    rfl
   ·have e:dM p.key.path (q::s)=dM p.key.path s:=by unfold dM;rw[List.dropWhile_cons,if_pos hq]
    repeat' (first|refine zB rfl (by first|exact d1|exact hq) ?_|refine zI rfl la ?_|refine zA rfl ?_|refine aA ?_|refine aL rfl ?_|refine zX rfl (⟨Int.le_refl 0,rfl⟩) ?_)
    refine gO aF rfl rfl rfl rfl (lo:=1) (l:=q::s) rfl rfl rfl rfl rfl rfl (by simp) ?_
    repeat' (first|refine zA rfl ?_|refine aA ?_)
    exact⟨s.length,_,_,by simp,⟨s,rfl,e.symm.trans hm,rfl,rfl⟩,aR.le (AF.le_cons rfl (AF.le_cons rfl (AF.le_nil rfl))) (aG.le_cons rfl (aG.le_nil rfl))⟩
theorem a47 (t:Tr) (dir:aD) (hd:dir.length < 1000000) (l:List Pr) (hl:mK l):aQ Tryz.prog 72 [.ptr 0 0] (pE t dir l) fun e N=>Q8 t dir (AO (cK dir l)).2 e N (.ret (sb (AO (cK dir l)).1)):=
 OK (pD _) (YA t dir hd l hl)
theorem LR {dir:aD} {l r:List Pr} {p:Pr} (h:cK dir l=p::r):eS dir p.key.path=true:=by
 induction l with
 |nil=>cases h
 |cons q s ih=>
  cases hq:eS dir q.key.path
  ·rw[qZ hq] at h
   exact ih h
  ·rw[oO hq] at h
   cases h
   exact hq
theorem B7 (p:Pr):∀c,c∈p.av.cells→aN c:=by
 intro c hc
 have:c∈[AV.str p.key.path,.int .i64 p.key.time,.str p.val]:=hc
 exact bK aP aB aP c this
def DA (dir:aD) (l:List Pr):Pr:=(A8 (cK dir l)).1.1
def DF (dir:aD) (l:List Pr):Bool:=(A8 (cK dir l)).1.2
def JQ (dir:aD) (l:List Pr):List Pr:=(A8 (cK dir l)).2
def ZI (l:List Pr):List AV:=l.map fun p=>(IV p).av
def vrA (l:List Pr) (t:eE):AV:=.sl 6 (ZI l) t
theorem DO (l:List Pr):∀x,x∈ZI l→∀c,c∈x.cells→aN c:=by
 intro x hx
 obtain⟨p,_,rfl⟩:=List.mem_map.1 hx
 exact AS _
theorem rB (l:List Pr):aN (vrA l .none):=bR (.inl rfl) (fun x hx=>by obtain⟨p,_,rfl⟩:=List.mem_map.1 hx;exact vD _) (DO l)
def cP (l:List Pr):Prop:=∀p,p∈l→p.key.path.length < 1000000∧p.val.length < 1000000
theorem cP.short {l:List Pr} (h:cP l):mK l:=fun p hp=>(h p hp).1
theorem IL {p:Pr} (h:B2 p=true):bN p.key.path=true:=by
 unfold B2 kJ at h
 simp at h
 exact h.1.2.1.1
theorem R8 {s:aD} (h:bN s=true):eS [] s=true:=by
 unfold eS
 rw[h]
 rfl
theorem yW:bN []=true:=rfl
theorem SH {l:List Pr} {i:Nat} {x:Pr} (hx:l[i]? =some x) (hi:dZ (l.take i)=true) (h:B2 x=true):dZ (l.take (i+1))=true:=I8 hx hi h
def a1t (t:Tr) (m:List Pr) (g:Nat):aG:=⟨3,[(0,.cells (jH t [] m)),(2,.spare g)]⟩
def W4 (out:List Pr) (g:Nat) (p:Pr) (ok:Bool):AF:=⟨[(8,.fn (.func 196) [.ptr 0 0] []),(7,vrA out (.tok 2 g)),(9,.ref p.av.cells),(10,.bool ok)],[]⟩
def vX (t:Tr) (A:List Pr) (i:Nat):AF:=⟨[(3,.ptr 0 0),(19,.sl 3 (A.map Pr.av) .none),(20,.int .i64 (A.length:Int)),(21,.int .i64 (i:Int))],[]⟩
theorem PD (t:Tr) (hs:t.all.length < 10000000) (hv:cP t.all) (h:dZ t.all=false):N1 Tryz.prog 156 [t.av] (.pan (kN 1)):=by
 refine tA (aX (bG t)) (cI 1) ?_
 refine aC aF Tryz.func156 rfl (by decide) (by simp[Tryz.f156]) ?_
 have kn:=ER t hs [] (by decide) yW
 have ka:=sE t hs
 have k0:=sM
 have lA:=bA Pr.av t.all
 unfold Tr.av at kn ka ⊢
 repeat' (first|refine zA rfl ?_|refine aA ?_|refine aL rfl ?_)
 refine bS rfl rfl kn ?_ (fun u M' h=>by cases h.1)
 rintro u N ⟨e,rfl⟩
 cases e
 repeat' (first|refine zI rfl lA ?_|refine zA rfl ?_|refine aA ?_|refine aL rfl ?_|refine aH rfl k0 ?_|refine aH rfl ka ?_)
 generalize t.all=A at*
 refine bC A.length (fun i f N=>N=pE t [] A∧dZ (A.take i)=true∧f=vX t A i) (Nat.zero_le _) ⟨rfl,rfl,rfl⟩ (aR.le ?_ (aG.le_cons rfl (aG.le_nil rfl))) ?_
 ·unfold vX
  repeat (refine AF.le_cons rfl ?_)
  exact AF.le_nil rfl
 rintro i f N hi ⟨rfl,hinv,rfl⟩
 unfold vX
 by_cases h1:i < A.length
 ·have d1:decide ((i:Int) < (A.length:Int))=true:=by simp;omega
  have hx:A[i]? =some A[i]:=List.getElem?_eq_getElem h1
  have fi:=aZ (i:=i) (by omega)
  have hb:=hv _ (List.getElem_mem h1)
  generalize A[i]=x at hx hb
  cases ho:B2 x
  ·have kr:=a2q x hb.1 hb.2 ho
   repeat' (first|refine zB rfl d1 ?_|refine zA rfl ?_|refine aA ?_|refine aL rfl ?_|refine AZ rfl rfl (kr) ?_|refine zX rfl (fB hx) ?_)
   exact⟨rfl,aI.of_closed (cI 1)⟩
  ·have kr:=rZ x hb.1 hb.2 ho
   repeat' (first|refine zB rfl d1 ?_|refine zI rfl fi ?_|refine zA rfl ?_|refine aA ?_|refine aL rfl ?_|refine aH rfl kr ?_|refine zX rfl (fB hx) ?_)
   refine⟨h1,_,_,⟨rfl,SH hx hinv ho,rfl⟩,aR.cut (k:=1) (t:=(vX t A (i+1)).t) (l:=(pE t [] A).objs) (by show 1≤1;omega) (by show 1≤2;omega) rfl ⟨?_,?_,?_,?_,trivial⟩ (cG (by decide) rfl (fE t [] A) trivial)⟩
   ·exact aI.ptr rfl
   ·exact aI.of_closed (bW _)
   ·exact aI.of_closed aB
   ·exact aI.of_closed aB
 ·exfalso
  obtain rfl:i=A.length:=by omega
  rw[List.take_length] at hinv
  rw[h] at hinv
  cases hinv
theorem a4j {a:List Pr} {p:Pr} {t:eE}:AV.sl 6 (ZI a++[(IV p).av]) t=vrA (a++[p]) t:=by simp[vrA,ZI]
theorem JL (t:Tr) (hs:t.all.length < 10000000) (hv:cP t.all) (h:dZ t.all=true):aO Tryz.prog 156 [t.av] (vrA t.all .none):=by
 refine aU (aX (bG t)) (rB _) ?_
 refine aC aF Tryz.func156 rfl (by decide) (by simp[Tryz.f156]) ?_
 have kn:=ER t hs [] (by decide) yW
 have kx:=fun (l:List Pr) (h:mK l)=>a1p t [] (by decide) l h
 have ka:=sE t hs
 have k0:=sM
 have lA:=bA Pr.av t.all
 unfold Tr.av at kn ka ⊢
 repeat' (first|refine zA rfl ?_|refine aA ?_|refine aL rfl ?_)
 refine bS rfl rfl kn ?_ (fun u M' h=>by cases h.1)
 rintro u N ⟨e,rfl⟩
 cases e
 repeat' (first|refine zI rfl lA ?_|refine zA rfl ?_|refine aA ?_|refine aL rfl ?_|refine aH rfl k0 ?_|refine aH rfl ka ?_)
 have hok:∀p,p∈t.all→B2 p=true:=fun p hp=>by
  unfold dZ at h
  rw[List.all_eq_true] at h
  exact h p hp
 generalize t.all=A at*
 refine bC A.length (fun i f N=>N=pE t [] A∧f=vX t A i) (Nat.zero_le _) ⟨rfl,rfl⟩ (aR.le ?_ (aG.le_cons rfl (aG.le_nil rfl))) ?_
 ·unfold vX
  repeat (refine AF.le_cons rfl ?_)
  exact AF.le_nil rfl
 rintro i f N hi ⟨rfl,rfl⟩
 unfold vX
 by_cases h1:i < A.length
 ·have d1:decide ((i:Int) < (A.length:Int))=true:=by simp;omega
  have hx:A[i]? =some A[i]:=List.getElem?_eq_getElem h1
  have fi:=aZ (i:=i) (by omega)
  have hb:=hv _ (List.getElem_mem h1)
  have ho:=hok _ (List.getElem_mem h1)
  generalize A[i]=x at hx hb ho
  have kr:=rZ x hb.1 hb.2 ho
  repeat' (first|refine zB rfl d1 ?_|refine zI rfl fi ?_|refine zA rfl ?_|refine aA ?_|refine aL rfl ?_|refine aH rfl kr ?_|refine zX rfl (fB hx) ?_)
  refine⟨h1,_,_,⟨rfl,rfl⟩,aR.cut (k:=1) (t:=(vX t A (i+1)).t) (l:=(pE t [] A).objs) (by show 1≤1;omega) (by show 1≤2;omega) rfl ⟨?_,?_,?_,?_,trivial⟩ (cG (by decide) rfl (fE t [] A) trivial)⟩
  ·exact aI.ptr rfl
  ·exact aI.of_closed (bW _)
  ·exact aI.of_closed aB
  ·exact aI.of_closed aB
 ·have d1:decide ((i:Int) < (A.length:Int))=false:=by simp;omega
  obtain rfl:i=A.length:=by omega
  repeat' (first|refine zB rfl d1 ?_|refine zA rfl ?_|refine aA ?_|refine aL rfl ?_)
  refine bS rfl rfl (iV (R:=fun e N=>e=.ret (pb (DA [] A,DF [] A))∧N=_) 0 rfl (Nat.zero_lt_succ _) (kx A hv.short) (v8 _) ⟨kP.ptr rfl,trivial⟩ ⟨rfl,rfl⟩) ?_ (fun u M' h=>by cases h.1)
  rintro u N ⟨e,rfl⟩
  cases e
  unfold pb
  repeat' (first|refine zA rfl ?_|refine aA ?_|refine aL rfl ?_)
  refine lB (fun k f N=>∃(g:Nat) (rest out:List Pr),rest.length=k∧(∀p,p∈rest→p∈A)∧out++rest=A∧N=a1t t (JQ [] rest) g∧f=W4 out g (DA [] rest) (DF [] rest)) (k:=A.length) ⟨0,A,[],rfl,fun _ hp=>hp,rfl,rfl,rfl⟩
   ((aR.freezeP 9 rfl rfl).trans ((aR.tok 7 rfl (sz':=6) (.inr rfl)).trans (aR.le ?_ (aG.le_cons rfl (aG.le_cons rfl (aG.le_nil rfl)))))) ?_
  ·unfold W4
   repeat (refine AF.le_cons rfl ?_)
   exact AF.le_nil rfl
  rintro k f N ⟨g,rest,out,rfl,hin,hinv,rfl,rfl⟩
  unfold a1t W4
  unfold DA DF JQ
  cases rest with
  |nil=>
   rw[show cK [] []=[] from rfl]
   repeat' (first|refine zA rfl ?_|refine aA ?_|refine aL rfl ?_)
   have e:out=A:=by simpa using hinv
   exact⟨rfl,_,rfl,_,rfl,by rw[←e];exact aI.untag (rB out)⟩
  |cons p r=>
   have ho:=hok p (hin p (by simp))
   have hb:=hv p (hin p (by simp))
   rw[oO (R8 (IL ho))]
   have hinr:∀q,q∈r→q∈A:=fun q hq=>hin q (by simp[hq])
   have kn2:=kx r (fun q hq=>(hv q (hinr q hq)).1)
   have kr:=rZ p hb.1 hb.2 ho
   have lo:out.length < 10000000:=by have:=congrArg List.length hinv;simp at this;omega
   have lv:(ZI out).length=out.length:=by simp[ZI]
   unfold vrA
   repeat' (first|refine zA rfl ?_|refine aA ?_|refine aL rfl ?_|refine aH rfl kr ?_|refine zR rfl ?_|refine zP rfl rfl ?_)
   refine bS rfl rfl (iV (R:=fun e N=>e=.ret (pb (DA [] r,DF [] r))∧N=_) 0 rfl (Nat.zero_lt_succ _) kn2 (v8 _) ⟨kP.ptr rfl,trivial⟩ ⟨rfl,rfl⟩) ?_ (fun u M' h=>by cases h.1)
   rintro u N ⟨e,rfl⟩
   cases e
   unfold pb
   repeat' (first|refine zA rfl ?_|refine aA ?_)
   refine⟨r.length,W4 (out++[p]) (g+1) (DA [] r) (DF [] r),a1t t (JQ [] r) (g+1),by simp,⟨g+1,r,out++[p],rfl,hinr,by rw[List.append_assoc];exact hinv,rfl,rfl⟩,?_⟩
   refine (aR.freezeP 9 rfl rfl).trans ?_
   refine aR.cut (k:=3) (t:=(W4 (out++[p]) (g+1) (DA [] r) (DF [] r)).t) (l:=(a1t t (JQ [] r) (g+1)).objs) (by show 2≤3;omega) (by show 3≤4;omega) rfl ⟨?_,?_,?_,?_,trivial⟩ ⟨by decide,⟨rfl,?_⟩,by decide,rfl,trivial⟩
   ·exact aI.fn (by simp;exact aI.ptr rfl) (by simp)
   ·show aI 3 (.sl 6 (ZI out++[(IV p).av]) (.tok 2 (g+1))) _
    rw[a4j]
    exact aI.tok rfl (DO _)
   ·exact aI.of_closed (fX (B7 _))
   ·exact aI.of_closed aK
   ·intro i x y hx hy
    have hx':(jH t [] (JQ [] r))[i]? =some x:=hx
    rw[hy] at hx'
    cases hx'
    exact aI.of_closed (fE t [] _ _ (List.mem_of_getElem? hy))
end Go.Proofs.YteliblifgdofgaaGreatDoor
