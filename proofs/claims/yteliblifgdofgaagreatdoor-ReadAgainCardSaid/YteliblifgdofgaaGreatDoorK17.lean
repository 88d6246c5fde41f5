/- Parts of the proof, one behind the other. No further condition. -/
import Derived.Test.YteliblifgdofgaaGreatDoorK13
import Derived.Test.YteliblifgdofgaaGreatDoorK16
import Derived.Test.YteliblifgdofgaaGreatDoorK08
set_option linter.unusedVariables false
set_option linter.unusedSimpArgs false
set_option maxRecDepth 100000
set_option maxHeartbeats 8000000
namespace Go.Proofs.YteliblifgdofgaaGreatDoor
open Go.Ab
theorem iW (p:Pr):aN p.av:=bU (bK aP aB aP)
theorem bW (l:List Pr):aN (.sl 3 (l.map Pr.av) .none):=by
 refine g9 (fun a=>iW a) ?_
 intro a c hc
 have:c∈[AV.str a.key.path,.int .i64 a.key.time,.str a.val]:=hc
 exact bK aP aB aP c this
theorem T0 (l:List Pr) (tg:eE) (hl:l.length < 1000000) (g:FuncId) (fi ca:List AV) (p:Pr→Bool) (hp:∀x,x∈l→aO Tryz.prog g (fi++[x.av]++ca) (.bool (p x))):aO Tryz.prog 376 [.sl 3 (l.map Pr.av) tg,.fn (.func g) fi ca] (.int .i64 (r7 l p)):=by
 intro M
 refine aC aF Tryz.func376 rfl (by decide) (by simp[Tryz.f376]) ?_
 have la:((l.map Pr.av).length:Int)=(l.length:Int):=by simp
 repeat' (first|refine zI rfl la ?_|refine zA rfl ?_|refine aA ?_|refine aL rfl ?_)
 refine bC l.length (fun i f N=>N=M∧(∀(j:Nat) y,j < i→l[j]? =some y→p y=false)∧f=⟨[(0,.sl 3 (l.map Pr.av) tg),(1,.fn (.func g) fi ca),(7,.int .i64 (l.length:Int)),(8,.int .i64 (i:Int))],[]⟩) (Nat.zero_le _) ⟨rfl,fun j y hj=>absurd hj (Nat.not_lt_zero _),rfl⟩ (aR.le ?_ (aG.le_refl _)) ?_
 ·skip
  repeat (refine AF.le_cons rfl ?_)
  exact AF.le_nil rfl
 ·rintro i f N hi ⟨rfl,hno,rfl⟩
  by_cases h1:i < l.length
  ·have d1:decide ((i:Int) < (l.length:Int))=true:=by simp;omega
   have hx:l[i]? =some l[i]:=List.getElem?_eq_getElem h1
   have fi:=aZ (i:=i) (by omega)
   have hk:=hp l[i] (List.getElem_mem h1)
   generalize l[i]=x at hx hk
   cases hpx:p x
   ·rw[hpx] at hk
    repeat' (first|refine zB rfl d1 ?_|refine zA rfl ?_|refine aA ?_|refine aL rfl ?_)
    refine zX rfl (fB hx) ?_
    repeat' (first|refine zI rfl fi ?_|refine zA rfl ?_|refine aA ?_|refine aL rfl ?_|refine aH rfl hk ?_)
    refine⟨h1,_,_,⟨rfl,?_,rfl⟩,aR.le ?_ (aG.le_refl _)⟩
    ·intro j y hj hy
     by_cases hji:j=i
     ·subst hji
      rw[hx] at hy
      cases hy
      exact hpx
     ·exact hno j y (by omega) hy
    ·skip
     repeat (refine AF.le_cons rfl ?_)
     exact AF.le_nil rfl
   ·rw[hpx] at hk
    repeat' (first|refine zB rfl d1 ?_|refine zA rfl ?_|refine aA ?_|refine aL rfl ?_)
    refine zX rfl (fB hx) ?_
    repeat' (first|refine zA rfl ?_|refine aA ?_|refine aL rfl ?_|refine aH rfl hk ?_)
    exact⟨rfl,_,rfl,by rw[rO hno hx hpx];rfl,rfl⟩
  ·have d1:decide ((i:Int) < (l.length:Int))=false:=by simp;omega
   obtain rfl:i=l.length:=by omega
   repeat' (first|refine zB rfl d1 ?_|refine zA rfl ?_|refine aA ?_|refine aL rfl ?_)
   exact⟨rfl,_,rfl,by rw[lQ (fun j y hy=>hno j y (List.getElem?_eq_some_iff.1 hy).1 hy)];rfl,rfl⟩
theorem QU (x:Pr) (k:Ky):aO Tryz.prog 375 [x.av,.ref [.str k.path,.int .i64 k.time]] (.bool (!bI x.key k)):=by
 intro M
 refine aC aF Tryz.func375 rfl (by decide) (by simp[Tryz.f375]) ?_
 have kl:=FR x.key k
 rw[FD] at kl
 repeat' (first|refine zA rfl ?_|refine aA ?_|refine aL rfl ?_|refine aH rfl kl ?_)
 exact⟨rfl,_,rfl,rfl,rfl⟩
theorem X0 (l:List Pr) (k:Ky):(l.findIdx fun x=>!bI x.key k)=dN l k:=by
 induction l with
 |nil=>rfl
 |cons q r ih=>
  unfold dN at ih ⊢
  rw[List.findIdx_cons,List.takeWhile_cons]
  cases h:bI q.key k
  ·simp
  ·simp[ih]
theorem o8 (l:List Pr) (k:Ky):dN l k≤l.length:=by
 unfold dN
 exact (List.takeWhile_sublist _).length_le
def n5 (l:List Pr) (k:Ky):Bool:=match l[dN l k]? with
 |some q=>decide (q.key=k)
 |none=>false
theorem a36 (a b:Ky):((a.path==b.path)&&((decide (a.time=b.time))&&true))=decide (a=b):=by
 obtain⟨p,t⟩:=a
 obtain⟨q,u⟩:=b
 rw[Bool.eq_iff_iff]
 simp
theorem t8 (l:List Pr) (tg:eE) (hl:l.length < 1000000) (k:Ky):aO Tryz.prog 371 [.sl 3 (l.map Pr.av) tg,k.av] (.tup [.int .i64 (dN l k),.bool (n5 l k)]):=by
 intro M
 refine aC aF Tryz.func371 rfl (by decide) (by simp[Tryz.f371]) ?_
 have kf:=T0 l tg hl 375 [] [.ref [.str k.path,.int .i64 k.time]] (fun x=>!bI x.key k) (fun x _=>QU x k)
 have la:((l.map Pr.av).length:Int)=(l.length:Int):=by simp
 have hle:=o8 l k
 unfold r7 at kf
 rw[X0] at kf
 unfold n5
 by_cases h1:dN l k < l.length
 ·rw[if_pos h1] at kf
  have hx:l[dN l k]? =some l[dN l k]:=List.getElem?_eq_getElem h1
  generalize l[dN l k]=q at hx
  generalize dN l k=n at kf hx h1 hle
  rw[hx]
  have d1:decide ((n:Int) < 0)=false:=by simp
  have ce:=a36 q.key k
  repeat' (first|refine zB rfl d1 ?_|refine zA rfl ?_|refine aA ?_|refine aL rfl ?_|refine aH rfl kf ?_|refine aW mixed [0,1,2,8,3,4,5,6,7,9] [.P,.P,.P,.R,.R,.R,.R,.P,.P,.P] rfl rfl (by kernel_rfl) ?_)
  refine zX rfl (fB hx) ?_
  repeat' (first|refine zB rfl ce ?_|refine zA rfl ?_|refine aA ?_|refine aL rfl ?_)
  exact⟨rfl,_,rfl,rfl,rfl⟩
 ·rw[if_neg h1] at kf
  have h2:dN l k=l.length:=by omega
  rw[h2,List.getElem?_eq_none (Nat.le_refl _)]
  repeat' (first|refine zI rfl la ?_|refine zA rfl ?_|refine aA ?_|refine aL rfl ?_|refine aH rfl kf ?_)
  exact⟨rfl,_,rfl,rfl,rfl⟩
def qS (r:List Pr×Bool):AV:=.sl 3 (r.1.map Pr.av) (GA r.2)
theorem A4 (r:List Pr×Bool):aN (qS r):=by
 obtain⟨l,b⟩:=r
 have h1:∀x,x∈l.map Pr.av→aN x:=by
  intro x hx
  obtain⟨a,_,rfl⟩:=List.mem_map.1 hx
  exact iW a
 have h2:∀x,x∈l.map Pr.av→∀c,c∈x.cells→aN c:=by
  intro x hx c hc
  obtain⟨a,_,rfl⟩:=List.mem_map.1 hx
  have:c∈[AV.str a.key.path,.int .i64 a.key.time,.str a.val]:=hc
  exact bK aP aB aP c this
 cases b
 ·exact bR (.inl rfl) h1 h2
 ·exact bR (.inr rfl) h1 h2
theorem oE (rows:List (List Pr×Bool)) (b:Bool):aN (.sl 1 (rows.map qS) (GA b)):=by
 have h1:∀x,x∈rows.map qS→aN x:=by
  intro x hx
  obtain⟨a,_,rfl⟩:=List.mem_map.1 hx
  exact A4 a
 have h2:∀x,x∈rows.map qS→∀c,c∈x.cells→aN c:=by
  intro x hx c hc
  obtain⟨a,_,rfl⟩:=List.mem_map.1 hx
  have:c=qS a:=by simpa [qS,AV.cells] using hc
  exact this ▸ A4 a
 cases b
 ·exact bR (.inl rfl) h1 h2
 ·exact bR (.inr rfl) h1 h2
def d7 (rows:List (List Pr×Bool)):List Pr:=(rows.map (·.1)).flatten
theorem rE {rows:List (List Pr×Bool)} {i:Nat} {r:List Pr×Bool} (h:rows[i]? =some r):d7 (rows.take (i+1))=d7 (rows.take i)++r.1:=by
 unfold d7
 rw[bM h]
 simp
theorem a0s {a b:List Pr} {t:eE}:AV.sl 3 (a.map Pr.av++b.map Pr.av) t=.sl 3 ((a++b).map Pr.av) t:=by simp
theorem BI {n:Nat}:∀(rows:List (List Pr×Bool)),(∀r,r∈rows→r.1.length≤n)→(d7 rows).length≤rows.length*n
 |[],_=>by simp[d7]
 |r::s,h=>by
  have ih:=BI s (fun x hx=>h x (by simp[hx]))
  have h1:=h r (by simp)
  unfold d7 at ih ⊢
  rw[List.map_cons,List.flatten_cons,List.length_append,List.length_cons,Nat.succ_mul]
  omega
theorem kB (rows:List (List Pr×Bool)) (b:Bool) (hr:rows.length < 1000) (hl:∀r,r∈rows→r.1.length≤100000):aO Tryz.prog 374 [.sl 1 (rows.map qS) (GA b)] (.sl 3 ((d7 rows).map Pr.av) .none):=by
 refine aU (aX (oE rows b)) (bW _) ?_
 refine aC aF Tryz.func374 rfl (by decide) (by simp[Tryz.f374]) ?_
 have la:((rows.map qS).length:Int)=(rows.length:Int):=by simp
 repeat' (first|refine zI rfl la ?_|refine zA rfl ?_|refine aA ?_|refine aL rfl ?_)
 refine bC rows.length (fun i f N=>∃(g:Nat),N=tokM g∧f=⟨[(3,.sl 3 ((d7 (rows.take i)).map Pr.av) (.tok 0 g)),(6,.sl 1 (rows.map qS) (GA b)),(7,.int .i64 (rows.length:Int)),(8,.int .i64 (i:Int))],[]⟩) (Nat.zero_le _) ⟨0,rfl,rfl⟩
  ((aR.tok 3 rfl (sz':=3) (.inr rfl)).trans (aR.le ?_ (fF rfl rfl))) ?_
 ·skip
  repeat (refine AF.le_cons rfl ?_)
  exact AF.le_nil rfl
 ·rintro i f N hi ⟨g,rfl,rfl⟩
  by_cases h1:i < rows.length
  ·have d1:decide ((i:Int) < (rows.length:Int))=true:=by simp;omega
   have hx:rows[i]? =some rows[i]:=List.getElem?_eq_getElem h1
   have fi:=aZ (i:=i) (by omega)
   have hfl:=BI (rows.take i) (fun r hr=>hl r (List.mem_of_mem_take hr))
   have htl:(rows.take i).length≤1000:=by simp;omega
   have hml:(d7 (rows.take i)).length≤1000*100000:=Nat.le_trans hfl (Nat.mul_le_mul_right _ htl)
   have hri:=hl rows[i] (List.getElem_mem h1)
   have hs:=rE hx
   generalize rows[i]=r at hx hri hs
   repeat' (first|refine zB rfl d1 ?_|refine aA ?_|refine aL rfl ?_)
   refine zX rfl (fB hx) ?_
   repeat' (first|refine zI rfl fi ?_|refine zA rfl ?_|refine aA ?_|refine aL rfl ?_|refine zP rfl rfl ?_)
   refine⟨h1,_,_,⟨g+1,rfl,rfl⟩,aR.le (AF.le_cons ?_ (AF.le_cons rfl (AF.le_cons rfl (AF.le_cons rfl (AF.le_nil rfl))))) (fF rfl rfl)⟩
   rw[hs]
   exact a0s
  ·have d1:decide ((i:Int) < (rows.length:Int))=false:=by simp;omega
   obtain rfl:i=rows.length:=by omega
   repeat' (first|refine zB rfl d1 ?_|refine zA rfl ?_|refine aA ?_|refine aL rfl ?_)
   rw[List.take_length]
   exact⟨rfl,_,rfl,_,rfl,aI.untag (bW _)⟩
theorem VW (l:List Pr) (p:Pr):cQ l p=l.take (dN l p.key)++([p]++if n5 l p.key=true then l.drop (dN l p.key+1) else l.drop (dN l p.key)):=by
 induction l with
 |nil=>rfl
 |cons q r ih=>
  cases h:bI q.key p.key
  ·have e1:dN (q::r) p.key=0:=by unfold dN;rw[List.takeWhile_cons,if_neg (by simp[h])];rfl
   have e2:n5 (q::r) p.key=decide (q.key=p.key):=by unfold n5;rw[e1];rfl
   rw[cQ,if_neg (by simp[h]),e1,e2]
   by_cases he:q.key=p.key
   ·simp[he]
   ·simp[he]
  ·have e1:dN (q::r) p.key=dN r p.key+1:=by unfold dN;rw[List.takeWhile_cons,if_pos h];rfl
   have e2:n5 (q::r) p.key=n5 r p.key:=by unfold n5;rw[e1];rfl
   rw[cQ,if_pos h,e1,e2,ih]
   simp
theorem OL {l:List Pr} {k:Ky} (h:n5 l k=true):dN l k < l.length:=by
 unfold n5 at h
 cases hx:l[dN l k]? with
 |none=>rw[hx] at h;cases h
 |some q=>exact (List.getElem?_eq_some_iff.1 hx).1
theorem a28 (l:List Pr) (hl:l.length < 100000) (p:Pr):aO Tryz.prog 373 [.sl 3 (l.map Pr.av) .none,p.av] (.sl 3 ((cQ l p).map Pr.av) .none):=by
 intro M
 refine aC aF Tryz.func373 rfl (by decide) (by simp[Tryz.f373]) ?_
 have kf:=t8 l .none (by omega) p.key
 have hle:=o8 l p.key
 have hj:=kB
 rw[VW]
 have hh:=@OL l p.key
 generalize dN l p.key=n at kf hle hh
 cases hp:n5 l p.key
 ·rw[hp] at kf
  rw[if_neg (by simp)]
  have kj:=kB [(l.take n,false),([p],true),(l.drop n,false)] true (by simp) (by simp;omega)
  have e:d7 [(l.take n,false),([p],true),(l.drop n,false)]=l.take n++([p]++l.drop n):=by simp[d7]
  rw[e] at kj
  repeat' (first|refine zA rfl ?_|refine aA ?_|refine aL rfl ?_|refine aH rfl kf ?_)
  refine gO aF rfl rfl rfl rfl (lo:=n) rfl rfl rfl rfl rfl rfl hle ?_
  repeat' (first|refine zA rfl ?_|refine aA ?_|refine aL rfl ?_|refine aW mixed [0,1,2,5,3,4,6,7,8] [.P,.P,.P,.R,.P,.P,.P,.P,.P] rfl rfl (by kernel_rfl) ?_)
  refine DE aF rfl rfl rfl rfl (n:=n) rfl rfl rfl rfl rfl rfl hle ?_
  repeat' (first|refine zA rfl ?_|refine aA ?_|refine aL rfl ?_|refine aH rfl kj ?_|refine zR rfl ?_)
  exact⟨rfl,_,rfl,rfl,rfl⟩
 ·have hlt:=hh hp
  rw[hp] at kf
  rw[if_pos rfl]
  have kj:=kB [(l.take n,false),([p],true),(l.drop (n+1),false)] true (by simp) (by simp;omega)
  have e:d7 [(l.take n,false),([p],true),(l.drop (n+1),false)]=l.take n++([p]++l.drop (n+1)):=by simp[d7]
  rw[e] at kj
  repeat' (first|refine zA rfl ?_|refine aA ?_|refine aL rfl ?_|refine aH rfl kf ?_)
  refine gO aF rfl rfl rfl rfl (lo:=n) rfl rfl rfl rfl rfl rfl hle ?_
  repeat' (first|refine zA rfl ?_|refine aA ?_|refine aL rfl ?_)
  refine gO aF rfl rfl rfl rfl (lo:=1) rfl rfl rfl rfl rfl rfl (by simp;omega) ?_
  rw[List.drop_drop]
  repeat' (first|refine zA rfl ?_|refine aA ?_|refine aL rfl ?_|refine aW mixed [0,1,2,5,3,4,6,7,8] [.P,.P,.P,.R,.P,.P,.P,.P,.P] rfl rfl (by kernel_rfl) ?_)
  refine DE aF rfl rfl rfl rfl (n:=n) rfl rfl rfl rfl rfl rfl hle ?_
  repeat' (first|refine zA rfl ?_|refine aA ?_|refine aL rfl ?_|refine aH rfl kj ?_|refine zR rfl ?_)
  exact⟨rfl,_,rfl,rfl,rfl⟩
def dL:(h:Nat)→Vt h→AV
 |0,l=>.iface 237 (.sl 3 (l.row.map Pr.av) .none)
 |h+1,l=>.iface 282 (.agg [.sl 1 (l.kids.map (dL h)) .none,.int .i64 ((bE (h+1) l).length:Int)])
theorem dJ:∀(h:Nat) (v:Vt h),aN (dL h v)
 |0,l=>mA (bW _)
 |h+1,l=>mA (bU (aV (g9 (dJ h) (fun a c hc=>by
   have:c∈[dL h a]:=by cases h<;>exact hc
   simp at this
   exact this ▸ dJ h a)) aB))
theorem UD (h:Nat) (v:Vt h):∃ty z,dL h v=.iface ty z:=by cases h<;>exact⟨_,_,rfl⟩
theorem uD (h:Nat) (v:Vt h):(dL h v).cells=[dL h v]:=by cases h<;>rfl
theorem cR (h:Nat) (l:List (Vt h)):aN (.sl 1 (l.map (dL h)) .none):=g9 (dJ h) (fun a c hc=>by
 rw[uD] at hc
 simp at hc
 exact hc ▸ dJ h a)
theorem vG (h:Nat) (l:List (Vt h)) (b:Bool):aN (.sl 1 (l.map (dL h)) (GA b)):=by
 have h1:∀x,x∈l.map (dL h)→aN x:=by
  intro x hx
  obtain⟨a,_,rfl⟩:=List.mem_map.1 hx
  exact dJ h a
 have h2:∀x,x∈l.map (dL h)→∀c,c∈x.cells→aN c:=by
  intro x hx c hc
  obtain⟨a,_,rfl⟩:=List.mem_map.1 hx
  rw[uD] at hc
  simp at hc
  exact hc ▸ dJ h a
 cases b
 ·exact bR (.inl rfl) h1 h2
 ·exact bR (.inr rfl) h1 h2
theorem RZ (h:Nat) (l:List (Vt h)) (tg:eE) (hl:l.length < 1000000) (g:FuncId) (fi ca:List AV) (p:Vt h→Bool) (hp:∀x,x∈l→aO Tryz.prog g (fi++[dL h x]++ca) (.bool (p x))):aO Tryz.prog 388 [.sl 1 (l.map (dL h)) tg,.fn (.func g) fi ca] (.int .i64 (r7 l p)):=by
 intro M
 refine aC aF Tryz.func388 rfl (by decide) (by simp[Tryz.f388]) ?_
 have la:((l.map (dL h)).length:Int)=(l.length:Int):=by simp
 repeat' (first|refine zI rfl la ?_|refine zA rfl ?_|refine aA ?_|refine aL rfl ?_)
 refine bC l.length (fun i f N=>N=M∧(∀(j:Nat) y,j < i→l[j]? =some y→p y=false)∧f=⟨[(0,.sl 1 (l.map (dL h)) tg),(1,.fn (.func g) fi ca),(7,.int .i64 (l.length:Int)),(8,.int .i64 (i:Int))],[]⟩) (Nat.zero_le _) ⟨rfl,fun j y hj=>absurd hj (Nat.not_lt_zero _),rfl⟩ (aR.le ?_ (aG.le_refl _)) ?_
 ·skip
  repeat (refine AF.le_cons rfl ?_)
  exact AF.le_nil rfl
 ·rintro i f N hi ⟨rfl,hno,rfl⟩
  by_cases h1:i < l.length
  ·have d1:decide ((i:Int) < (l.length:Int))=true:=by simp;omega
   have hx:l[i]? =some l[i]:=List.getElem?_eq_getElem h1
   have fi:=aZ (i:=i) (by omega)
   have hk:=hp l[i] (List.getElem_mem h1)
   generalize l[i]=x at hx hk
   have hmg:=EW (f:=dL h) hx
   obtain⟨ty,z,hax⟩:=UD h x
   rw[hax] at hk hmg
   cases hpx:p x
   ·rw[hpx] at hk
    repeat' (first|refine zB rfl d1 ?_|refine zA rfl ?_|refine aA ?_|refine aL rfl ?_)
    refine dG aF rfl rfl rfl rfl rfl rfl rfl rfl rfl rfl (Int.natCast_nonneg _) hmg ?_
    repeat' (first|refine zI rfl fi ?_|refine zA rfl ?_|refine aA ?_|refine aL rfl ?_|refine aH rfl hk ?_)
    refine⟨h1,_,_,⟨rfl,?_,rfl⟩,aR.le ?_ (aG.le_refl _)⟩
    ·intro j y hj hy
     by_cases hji:j=i
     ·subst hji
      rw[hx] at hy
      cases hy
      exact hpx
     ·exact hno j y (by omega) hy
    ·skip
     repeat (refine AF.le_cons rfl ?_)
     exact AF.le_nil rfl
   ·rw[hpx] at hk
    repeat' (first|refine zB rfl d1 ?_|refine zA rfl ?_|refine aA ?_|refine aL rfl ?_)
    refine dG aF rfl rfl rfl rfl rfl rfl rfl rfl rfl rfl (Int.natCast_nonneg _) hmg ?_
    repeat' (first|refine zA rfl ?_|refine aA ?_|refine aL rfl ?_|refine aH rfl hk ?_)
    exact⟨rfl,_,rfl,by rw[rO hno hx hpx];rfl,rfl⟩
  ·have d1:decide ((i:Int) < (l.length:Int))=false:=by simp;omega
   obtain rfl:i=l.length:=by omega
   repeat' (first|refine zB rfl d1 ?_|refine zA rfl ?_|refine aA ?_|refine aL rfl ?_)
   exact⟨rfl,_,rfl,by rw[lQ (fun j y hy=>hno j y (List.getElem?_eq_some_iff.1 hy).1 hy)];rfl,rfl⟩
theorem PT (n:Nat) (h:n < 1000000):IntKind.wrap .i64 (Int.tdiv (n:Int) 2)=((n/2:Nat):Int):=by
 have e:Int.tdiv (n:Int) 2=((n/2:Nat):Int):=rfl
 rw[e]
 exact Go.Ab.wrap_small (by omega) (by omega)
def a92 (l:List (List Pr)):AV:=.sl 1 (l.map fun r=>.sl 3 (r.map Pr.av) .none) .full
theorem MF (l:List Pr) (hl:l.length < 100000):aO Tryz.prog 377 [.sl 3 (l.map Pr.av) .none] (a92 (bB l)):=by
 intro M
 refine aC aF Tryz.func377 rfl (by decide) (by simp[Tryz.f377]) ?_
 have la:((l.map Pr.av).length:Int)=(l.length:Int):=by simp
 unfold bB
 by_cases h4:l.length≤4
 ·have d4:decide ((l.length:Int)≤4)=true:=by simp;omega
  rw[if_pos h4]
  repeat' (first|refine zB rfl d4 ?_|refine zI rfl la ?_|refine zA rfl ?_|refine aA ?_|refine aL rfl ?_|refine zR rfl ?_)
  exact⟨rfl,_,rfl,rfl,rfl⟩
 ·have d4:decide ((l.length:Int)≤4)=false:=by simp;omega
  have w1:=PT l.length (by omega)
  rw[if_neg h4]
  repeat' (first|refine zB rfl d4 ?_|refine zI rfl (by first|exact la|exact w1) ?_|refine zA rfl ?_|refine aA ?_|refine aL rfl ?_|refine aW mixed [0,1,2,3,4,5,6,7,8,9,10,11] [.P,.P,.P,.P,.P,.P,.P,.P,.P,.P,.P,.P] rfl rfl (by kernel_rfl) ?_)
  refine DE aF rfl rfl rfl rfl (n:=l.length/2) rfl rfl rfl rfl rfl rfl (by omega) ?_
  repeat' (first|refine zI rfl (by first|exact la|exact w1) ?_|refine zA rfl ?_)
  refine gO aF rfl rfl rfl rfl (lo:=l.length/2) rfl rfl rfl rfl rfl rfl (by omega) ?_
  repeat' (first|refine zA rfl ?_|refine aA ?_|refine aL rfl ?_|refine zR rfl ?_)
  exact⟨rfl,_,rfl,rfl,rfl⟩
def aAa (h:Nat) (l:List (List (Vt h))):AV:=.sl 1 (l.map fun r=>.sl 1 (r.map (dL h)) .none) .full
theorem MM (h:Nat) (l:List (Vt h)) (hl:l.length < 100000):aO Tryz.prog 195 [.sl 1 (l.map (dL h)) .none] (aAa h (bB l)):=by
 intro M
 refine aC aF Tryz.func195 rfl (by decide) (by simp[Tryz.f195]) ?_
 have la:((l.map (dL h)).length:Int)=(l.length:Int):=by simp
 unfold bB
 by_cases h4:l.length≤4
 ·have d4:decide ((l.length:Int)≤4)=true:=by simp;omega
  rw[if_pos h4]
  repeat' (first|refine zB rfl d4 ?_|refine zI rfl la ?_|refine zA rfl ?_|refine aA ?_|refine aL rfl ?_|refine zR rfl ?_)
  exact⟨rfl,_,rfl,rfl,rfl⟩
 ·have d4:decide ((l.length:Int)≤4)=false:=by simp;omega
  have w1:=PT l.length (by omega)
  rw[if_neg h4]
  repeat' (first|refine zB rfl d4 ?_|refine zI rfl (by first|exact la|exact w1) ?_|refine zA rfl ?_|refine aA ?_|refine aL rfl ?_|refine aW mixed [0,1,2,3,4,5,6,7,8,9,10,11] [.P,.P,.P,.P,.P,.P,.P,.P,.P,.P,.P,.P] rfl rfl (by kernel_rfl) ?_)
  refine DE aF rfl rfl rfl rfl (n:=l.length/2) rfl rfl rfl rfl rfl rfl (by omega) ?_
  repeat' (first|refine zI rfl (by first|exact la|exact w1) ?_|refine zA rfl ?_)
  refine gO aF rfl rfl rfl rfl (lo:=l.length/2) rfl rfl rfl rfl rfl rfl (by omega) ?_
  repeat' (first|refine zA rfl ?_|refine aA ?_|refine aL rfl ?_|refine zR rfl ?_)
  exact⟨rfl,_,rfl,rfl,rfl⟩
def T9 (l:List (Vt 0)):AV:=.sl 1 (l.map fun r=>.sl 3 (r.row.map Pr.av) .none) .full
theorem a4c {a:List (Vt 0)} {r:Vt 0} {t:eE}:AV.sl 1 (a.map (dL 0)++[.iface 237 (.sl 3 (r.row.map Pr.av) .none)]) t=.sl 1 ((a++[r]).map (dL 0)) t:=by
 rw[List.map_append]
 rfl
theorem CA (l:List Pr) (hl:l.length < 100000):aO Tryz.prog 372 [.sl 3 (l.map Pr.av) .none] (.sl 1 ((bB l:List (Vt 0)).map (dL 0)) .none):=by
 refine aU (aX (bW _)) (cR 0 _) ?_
 refine aC aF Tryz.func372 rfl (by decide) (by simp[Tryz.f372]) ?_
 have k0:=MF l hl
 have hlen:=fZ l
 have h20:(bB l).length≤2:=by rw[hlen];split<;>omega
 obtain⟨rows,hrows⟩:∃rows:List (Vt 0),rows=bB l:=⟨_,rfl⟩
 have h2:rows.length≤2:=by rw[hrows];exact h20
 have k:aO Tryz.prog 377 [.sl 3 (l.map Pr.av) .none] (T9 rows):=by rw[hrows];exact k0
 have hg:((bB l:List (Vt 0)).map (dL 0))=rows.map (dL 0):=by rw[hrows]
 rw[hg]
 unfold T9 at k
 have la:((rows.map fun r=>AV.sl 3 (r.row.map Pr.av) .none).length:Int)=(rows.length:Int):=by simp
 repeat' (first|refine zI rfl la ?_|refine zA rfl ?_|refine aA ?_|refine aL rfl ?_|refine aH rfl k ?_)
 refine bC rows.length (fun i f N=>∃(g:Nat),N=tokM g∧f=⟨[(3,.sl 1 ((rows.take i).map (dL 0)) (.tok 0 g)),(7,.sl 1 (rows.map fun r=>.sl 3 (r.row.map Pr.av) .none) .full),(8,.int .i64 (rows.length:Int)),(9,.int .i64 (i:Int))],[]⟩) (Nat.zero_le _) ⟨0,rfl,rfl⟩
  ((aR.tok 3 rfl (sz':=1) (.inr rfl)).trans (aR.le ?_ (fF rfl rfl))) ?_
 ·skip
  repeat (refine AF.le_cons rfl ?_)
  exact AF.le_nil rfl
 ·rintro i f N hi ⟨g,rfl,rfl⟩
  by_cases h1:i < rows.length
  ·have d1:decide ((i:Int) < (rows.length:Int))=true:=by simp;omega
   have hx:rows[i]? =some rows[i]:=List.getElem?_eq_getElem h1
   have fi:=aZ (i:=i) (by omega)
   have hs:=bM hx
   generalize rows[i]=r at hx hs
   repeat' (first|refine zB rfl d1 ?_|refine aA ?_|refine aL rfl ?_)
   refine zX rfl (fB hx) ?_
   repeat' (first|refine zI rfl fi ?_|refine zA rfl ?_|refine aA ?_|refine aL rfl ?_|refine zR rfl ?_|refine zP rfl rfl ?_)
   refine⟨h1,_,_,⟨g+1,rfl,rfl⟩,aR.le (AF.le_cons ?_ (AF.le_cons rfl (AF.le_cons rfl (AF.le_cons rfl (AF.le_nil rfl))))) (fF rfl rfl)⟩
   rw[hs]
   exact a4c
  ·have d1:decide ((i:Int) < (rows.length:Int))=false:=by simp;omega
   obtain rfl:i=rows.length:=by omega
   repeat' (first|refine zB rfl d1 ?_|refine zA rfl ?_|refine aA ?_|refine aL rfl ?_)
   rw[List.take_length]
   exact⟨rfl,_,rfl,_,rfl,aI.untag (cR 0 _)⟩
theorem TS (n:Nat) (h0:0 < n) (h1:n < 1000000) (M:aG):aQ Tryz.prog 391 [.sl 0 [] .full,.int .i64 (n:Int)] M (fun e M'=>∃(cap:Nat) (l':List AV),n≤cap∧l'.length=cap∧e=.ret (.osl M.next 0 0 cap 1)∧M'=M.push (.cells l')):=by
 refine aC aF Tryz.func391 rfl (by decide) (by simp[Tryz.f391]) ?_
 have d1:decide ((n:Int) < 0)=false:=by simp
 have w0:IntKind.wrap .i64 ((n:Int) - 0)=(n:Int):=(Go.Ab.wrap_small (by omega) (by omega)).trans (by omega)
 have d2:decide ((0:Int) < (n:Int))=true:=by simp;omega
 repeat' (first|refine zB rfl d1 ?_|refine zA rfl ?_|refine aA ?_|refine aL rfl ?_)
 refine E9 aF rfl rfl rfl rfl rfl rfl rfl ?_
 repeat' (first|refine zB rfl d2 ?_|refine zI rfl w0 ?_|refine zA rfl ?_|refine aA ?_|refine aL rfl ?_)
 refine E9 aF rfl rfl rfl rfl rfl rfl rfl ?_
 skip
 refine AM aF rfl rfl rfl rfl rfl rfl rfl rfl rfl ?_
 repeat' (first|refine zA rfl ?_)
 refine P5 aF rfl rfl rfl rfl rfl (n:=n) rfl rfl rfl rfl rfl rfl rfl rfl h0 (by simp;omega) (by omega) ?_
 intro cap' l' g1 g2
 repeat' (first|refine zA rfl ?_)
 refine BS aF rfl rfl rfl rfl rfl (l:=l') rfl (by rw[aG.get_push,if_pos rfl]) rfl rfl rfl rfl (by omega) (by simp) g1 ?_
 repeat' (first|refine zA rfl ?_|refine aA ?_|refine aL rfl ?_)
 exact⟨rfl,_,rfl,cap',l',g1,by simpa using g2,rfl,rfl⟩
def oM (h:Nat) (r:List (Vt h)×Bool):AV:=.sl 1 (r.1.map (dL h)) (GA r.2)
theorem sZ (h:Nat) (rows:List (List (Vt h)×Bool)) (b:Bool):aN (.sl 1 (rows.map (oM h)) (GA b)):=by
 have h1:∀x,x∈rows.map (oM h)→aN x:=by
  intro x hx
  obtain⟨a,_,rfl⟩:=List.mem_map.1 hx
  exact vG h a.1 a.2
 have h2:∀x,x∈rows.map (oM h)→∀c,c∈x.cells→aN c:=by
  intro x hx c hc
  obtain⟨a,_,rfl⟩:=List.mem_map.1 hx
  have:c=oM h a:=by simpa [oM,AV.cells] using hc
  exact this ▸ vG h a.1 a.2
 cases b
 ·exact bR (.inl rfl) h1 h2
 ·exact bR (.inr rfl) h1 h2
def eV {h:Nat} (rows:List (List (Vt h)×Bool)):List (Vt h):=(rows.map (·.1)).flatten
theorem yH {h:Nat} {rows:List (List (Vt h)×Bool)} {i:Nat} {r:List (Vt h)×Bool} (hr:rows[i]? =some r):eV (rows.take (i+1))=eV (rows.take i)++r.1:=by
 unfold eV
 rw[bM hr]
 simp
theorem AQ {h:Nat} (rows:List (List (Vt h)×Bool)) (i:Nat):(eV (rows.take i)).length≤(eV rows).length:=by
 unfold eV
 have:rows=rows.take i++rows.drop i:=(List.take_append_drop i rows).symm
 conv=>rhs;rw[this]
 rw[List.map_append,List.flatten_append,List.length_append]
 omega
def a2j {h:Nat} (rows:List (List (Vt h)×Bool)) (b:Bool) (i:Nat) (x:AV):List (Nat×AV):=[(6,x),(25,.sl 1 (rows.map (oM h)) (GA b)),(26,.int .i64 (rows.length:Int)),(27,.int .i64 (i:Int))]
theorem a57 {h k id:Nat} {rows:List (List (Vt h)×Bool)} {b:Bool} {i:Nat} {x:AV} {f:AF} (h6:gJ k id (f.get 6) x) (h25:f.get 25=.sl 1 (rows.map (oM h)) (GA b)) (h26:f.get 26=.int .i64 (rows.length:Int)) (h27:f.get 27=.int .i64 (i:Int)):IZ k id f (a2j rows b i x):=by
 refine⟨h6,?_,?_,?_,trivial⟩
 ·rw[h25];exact gJ.of_closed (sZ h rows b)
 ·rw[h26];exact gJ.of_closed aB
 ·rw[h27];exact gJ.of_closed aB
theorem qO (h:Nat) (l:List (Vt h)):∀x,x∈l.map (dL h)→aN x:=by
 intro x hx
 obtain⟨a,_,rfl⟩:=List.mem_map.1 hx
 exact dJ h a
theorem wO (h:Nat) (l:List (Vt h)):∀x,x∈l.map (dL h)→x.cells=[x]:=by
 intro x hx
 obtain⟨a,_,rfl⟩:=List.mem_map.1 hx
 exact uD h a
theorem J6 {h:Nat} {A B:List (Vt h)} {cap':Nat} {cells l':List AV} (hc:cells.take A.length=A.map (dL h)) (g1:A.length+(B.map (dL h)).length≤cap') (g2:l'.length=cap'*1)
  (g3:l'.take ((A.length+(B.map (dL h)).length)*1)=cells.take (A.length*1)++b8 (B.map (dL h))):
  l'.take ((A++B).map (dL h)).length=(A++B).map (dL h)∧l'.length=cap'∧((A++B).map (dL h)).length≤cap':=by
 rw[V7 (wO h B),Nat.mul_one,Nat.mul_one,hc] at g3
 have e:((A++B).map (dL h)).length=A.length+(B.map (dL h)).length:=by simp
 rw[e]
 refine⟨by rw[List.map_append];exact g3,by rw[g2,Nat.mul_one],g1⟩
theorem zZ (h:Nat) (rows:List (List (Vt h)×Bool)) (b:Bool) (hr:rows.length < 1000) (h0:0 < (eV rows).length) (h1:(eV rows).length < 100000):aO Tryz.prog 389 [.sl 1 (rows.map (oM h)) (GA b)] (.sl 1 ((eV rows).map (dL h)) .none):=by
 refine aU (aX (sZ h rows b)) (cR h _) ?_
 refine aC aF Tryz.func389 rfl (by decide) (by simp[Tryz.f389]) ?_
 have la:((rows.map (oM h)).length:Int)=(rows.length:Int):=by simp
 repeat' (first|refine zI rfl la ?_|refine zA rfl ?_|refine aA ?_|refine aL rfl ?_)
 refine bC rows.length (fun i f N=>N=⟨0,[]⟩∧f=⟨[(0,.sl 1 (rows.map (oM h)) (GA b)),(3,.int .i64 ((eV (rows.take i)).length:Int)),(9,.sl 1 (rows.map (oM h)) (GA b)),(10,.int .i64 (rows.length:Int)),(11,.int .i64 (i:Int))],[]⟩) (Nat.zero_le _) ⟨rfl,rfl⟩ (aR.le ?_ (aG.le_refl _)) ?_
 ·skip
  repeat (refine AF.le_cons rfl ?_)
  exact AF.le_nil rfl
 ·rintro i f N hi ⟨rfl,rfl⟩
  by_cases hi1:i < rows.length
  ·have d1:decide ((i:Int) < (rows.length:Int))=true:=by simp;omega
   have hx:rows[i]? =some rows[i]:=List.getElem?_eq_getElem hi1
   have fi:=aZ (i:=i) (by omega)
   have hs:=yH hx
   have hle:=AQ rows (i+1)
   generalize rows[i]=r at hx hs
   rw[hs,List.length_append] at hle
   have lr:((r.1.map (dL h)).length:Int)=(r.1.length:Int):=by simp
   have w1:IntKind.wrap .i64 (((eV (rows.take i)).length:Int)+(r.1.length:Int))=((eV (rows.take (i+1))).length:Int):=by
    rw[hs,List.length_append]
    exact (Go.Ab.wrap_small (by omega) (by omega)).trans (by omega)
   have d2:decide (((eV (rows.take (i+1))).length:Int) < 0)=false:=by simp
   repeat' (first|refine zB rfl d1 ?_|refine aA ?_|refine aL rfl ?_)
   refine zX rfl (fB hx) ?_
   repeat' (first|refine zB rfl d2 ?_|refine zI rfl (by first|exact fi|exact lr|exact w1) ?_|refine zA rfl ?_|refine aA ?_|refine aL rfl ?_)
   refine⟨hi1,_,_,⟨rfl,rfl⟩,aR.le ?_ (aG.le_refl _)⟩
   repeat (refine AF.le_cons rfl ?_)
   exact AF.le_nil rfl
  ·have d1:decide ((i:Int) < (rows.length:Int))=false:=by simp;omega
   obtain rfl:i=rows.length:=by omega
   rw[List.take_length]
   repeat' (first|refine zB rfl d1 ?_|refine zA rfl ?_|refine aA ?_|refine aL rfl ?_)
   refine FO rfl rfl rfl rfl rfl rfl (TS (eV rows).length h0 (by omega) ⟨0,[]⟩) ?_ (fun u M' ⟨_,_,_,_,e,_⟩=>by cases e)
   rintro u M' ⟨cap,l',g1,g2,g3,rfl⟩
   cases g3
   repeat' (first|refine zI rfl la ?_|refine zA rfl ?_|refine aA ?_|refine aL rfl ?_)
   refine bC rows.length (fun i f N=>∃(cap:Nat) (cells:List AV) (id:Nat),id≤1∧(eV (rows.take i)).length≤cap∧cells.take (eV (rows.take i)).length=(eV (rows.take i)).map (dL h)∧cells.length=cap∧N=⟨id+1,[(id,.cells cells)]⟩∧f=⟨a2j rows b i (.osl id 0 (eV (rows.take i)).length cap 1),[]⟩) (Nat.zero_le _) ⟨cap,l',0,Nat.zero_le 1,Nat.zero_le _,rfl,g2,rfl,rfl⟩ (aR.le ?_ (aG.le_refl _)) ?_
   ·unfold a2j
    repeat (refine AF.le_cons rfl ?_)
    exact AF.le_nil rfl
   ·rintro i f N hi ⟨cap,cells,id,hid,hcap,hce,hcl,rfl,rfl⟩
    have hle0:=AQ rows i
    unfold a2j
    by_cases hi1:i < rows.length
    ·have d1:decide ((i:Int) < (rows.length:Int))=true:=by simp;omega
     have hx:rows[i]? =some rows[i]:=List.getElem?_eq_getElem hi1
     have fi:=aZ (i:=i) (by omega)
     have hs:=yH hx
     have hle:=AQ rows (i+1)
     generalize rows[i]=r at hx hs
     rw[hs,List.length_append] at hle
     generalize eV (rows.take i)=A at hs hle hle0 hce hcap
     have hl:(A++r.1).length=A.length+(r.1.map (dL h)).length:=by simp
     have hid2:id=0∨id=1:=by omega
     rcases hid2 with rfl|rfl
     ·repeat' (first|refine zB rfl d1 ?_|refine aA ?_|refine aL rfl ?_)
      refine zX rfl (fB hx) ?_
      repeat' (first|refine zA rfl ?_|refine aA ?_|refine aL rfl ?_)
      refine m0 aF rfl rfl rfl rfl rfl (l:=cells) rfl rfl rfl rfl rfl rfl rfl rfl rfl rfl (by omega) (by omega) (by simp;omega) (by simp;omega) ?_
      intro cap' l' g1 g2 g3
      repeat' (first|refine zI rfl (by first|exact la|exact fi) ?_|refine zA rfl ?_|refine aA ?_|refine aL rfl ?_)
      obtain⟨k1,k2,k3⟩:=J6 hce g1 g2 g3
      have hg:=sB (k:=1) (id:=1) k1 k2 k3 (qO h _)
      refine⟨hi1,_,_,⟨cap',t6 ((A++r.1).map (dL h)) cap',1,Nat.le_refl 1,?_,?_,?_,rfl,rfl⟩,aR.move (k:=1) (id:=1) (Nat.le_refl 1) (Nat.le_refl 1) rfl hg.1 hg.2 trivial ?_ trivial⟩
      ·rw[hs];rw[List.length_map] at k3;exact k3
      ·rw[hs];have:=p6 ((A++r.1).map (dL h)) cap';rw[List.length_map] at this;exact this
      ·exact nP k3
      ·rw[hs,hl]
       exact a57 gJ.osl rfl rfl rfl
     ·repeat' (first|refine zB rfl d1 ?_|refine aA ?_|refine aL rfl ?_)
      refine zX rfl (fB hx) ?_
      repeat' (first|refine zA rfl ?_|refine aA ?_|refine aL rfl ?_)
      refine m0 aF rfl rfl rfl rfl rfl (l:=cells) rfl rfl rfl rfl rfl rfl rfl rfl rfl rfl (by omega) (by omega) (by simp;omega) (by simp;omega) ?_
      intro cap' l' g1 g2 g3
      repeat' (first|refine zI rfl (by first|exact la|exact fi) ?_|refine zA rfl ?_|refine aA ?_|refine aL rfl ?_)
      obtain⟨k1,k2,k3⟩:=J6 hce g1 g2 g3
      have hg:=sB (k:=1) (id:=2) k1 k2 k3 (qO h _)
      refine⟨hi1,_,_,⟨cap',t6 ((A++r.1).map (dL h)) cap',1,Nat.le_refl 1,?_,?_,?_,rfl,rfl⟩,aR.move (k:=1) (id:=2) (Nat.le_refl 1) (by omega) rfl hg.1 hg.2 trivial ?_ trivial⟩
      ·rw[hs];rw[List.length_map] at k3;exact k3
      ·rw[hs];have:=p6 ((A++r.1).map (dL h)) cap';rw[List.length_map] at this;exact this
      ·exact nP k3
      ·rw[hs,hl]
       exact a57 gJ.osl rfl rfl rfl
    ·have d1:decide ((i:Int) < (rows.length:Int))=false:=by simp;omega
     obtain rfl:i=rows.length:=by omega
     rw[List.take_length] at hce hcap
     rw[List.take_length]
     have hid2:id=0∨id=1:=by omega
     rcases hid2 with rfl|rfl
     ·refine jR (aR.freeze 6 (xs:=(eV rows).map (dL h)) rfl rfl hce (by omega) hcap (wO h _)) ?_
      repeat' (first|refine zB rfl d1 ?_|refine zA rfl ?_|refine aA ?_|refine aL rfl ?_)
      exact⟨rfl,_,rfl,_,rfl,aI.of_closed (cR h _)⟩
     ·refine jR (aR.freeze 6 (xs:=(eV rows).map (dL h)) rfl rfl hce (by omega) hcap (wO h _)) ?_
      repeat' (first|refine zB rfl d1 ?_|refine zA rfl ?_|refine aA ?_|refine aL rfl ?_)
      exact⟨rfl,_,rfl,_,rfl,aI.of_closed (cR h _)⟩
def G7:Nat→TypeId
 |0=>237
 |_+1=>282
def tL:(h:Nat)→Vt h→AV
 |0,l=>.sl 3 (l.row.map Pr.av) .none
 |h+1,l=>.agg [.sl 1 (l.kids.map (dL h)) .none,.int .i64 ((bE (h+1) l).length:Int)]
theorem gR (h:Nat) (v:Vt h):dL h v=.iface (G7 h) (tL h v):=by cases h<;>rfl
theorem fT {h:Nat} {l:List (Vt h)} {i:Nat} {x:Vt h} (hx:l[i]? =some x):(l.map (dL h))[i]? =some (.iface (G7 h) (tL h x)):=by
 rw[←gR]
 exact EW hx
theorem MW (l:List Pr):aO Tryz.prog 365 [.sl 3 (l.map Pr.av) .none] (.int .i64 (l.length:Int)):=by
 intro M
 refine aC aF Tryz.func365 rfl (by decide) (by simp[Tryz.f365]) ?_
 have la:((l.map Pr.av).length:Int)=(l.length:Int):=by simp
 repeat' (first|refine zI rfl la ?_|refine zA rfl ?_|refine aA ?_|refine aL rfl ?_)
 exact⟨rfl,_,rfl,rfl,rfl⟩
theorem LY (x:AV) (n:Int):aO Tryz.prog 378 [.agg [x,.int .i64 n]] (.int .i64 n):=by
 intro M
 refine aC aF Tryz.func378 rfl (by decide) (by simp[Tryz.f378]) ?_
 repeat' (first|refine zA rfl ?_|refine aA ?_|refine aL rfl ?_)
 exact⟨rfl,_,rfl,rfl,rfl⟩
def a8z:Nat→FuncId
 |0=>365
 |_+1=>378
theorem a9x (h:Nat):eW Tryz.prog (G7 h) "sexton/tree.all" =some (a8z h):=by
 cases h
 ·show eW Tryz.prog 237 "sexton/tree.all" =some 365
  kernel_rfl
 ·show eW Tryz.prog 282 "sexton/tree.all" =some 378
  kernel_rfl
theorem WQ (h:Nat) (v:Vt h):aO Tryz.prog (a8z h) [tL h v] (.int .i64 ((bE h v).length:Int)):=by
 cases h with
 |zero=>exact MW v.row
 |succ h=>exact LY _ _
theorem DH {h:Nat} {l:List (Vt h)} {i:Nat} {x:Vt h} (hx:l[i]? =some x):bH h (l.take (i+1))=bH h (l.take i)++bE h x:=by
 rw[bM hx,bQ,A6]
theorem w7 {h:Nat} (l:List (Vt h)) (i:Nat):(bH h (l.take i)).length≤(bH h l).length:=by
 have:l=l.take i++l.drop i:=(List.take_append_drop i l).symm
 conv=>rhs;rw[this]
 rw[bQ,List.length_append]
 omega
theorem MU {h:Nat} {l:List (Vt h)} {r:List (Vt h)} (hr:r∈bB l):(bH h r).length≤(bH h l).length:=by
 unfold bB at hr
 split at hr
 ·simp at hr
  rw[hr]
  exact Nat.le_refl _
 ·simp only[List.mem_cons,List.not_mem_nil,or_false] at hr
  rcases hr with rfl|rfl
  ·exact w7 _ _
  ·have:=bQ (h:=h) (l.take (l.length/2)) (l.drop (l.length/2))
   rw[List.take_append_drop] at this
   rw[this,List.length_append]
   omega
def aAf (g:Nat) (c:List AV):aG:=⟨2,[(1,.cells c),(0,.spare g)]⟩
theorem PR {g:Nat} {c:List AV} {M:aG} (hn:2=M.next) (h1:M.get 1=some (.cells c)) (h0:M.get 0=some (.spare g)):(aAf g c).le M:=aG.le_cons h1 (aG.le_cons h0 (aG.le_nil hn))
theorem a1c {h:Nat} {a:List (Vt (h+1))} {r:Vt (h+1)} {t:eE} {n:Int} (hn:n=((bE (h+1) r).length:Int)):AV.sl 1 (a.map (dL (h+1))++[.iface 282 (.agg [.sl 1 (r.kids.map (dL h)) .none,.int .i64 n])]) t=.sl 1 ((a++[r]).map (dL (h+1))) t:=by
 rw[List.map_append,hn]
 rfl
def LB (h:Nat) (l:List (Vt (h+1))):AV:=.sl 1 (l.map fun r=>.sl 1 (r.kids.map (dL h)) .none) .full
theorem B4 (h:Nat) (rows:List (Vt (h+1))):aN (LB h rows):=by
 have h1:∀x,x∈(rows.map fun r=>AV.sl 1 (r.kids.map (dL h)) .none)→aN x:=by
  intro x hx
  obtain⟨a,_,rfl⟩:=List.mem_map.1 hx
  exact cR h a.kids
 refine bR (.inr rfl) h1 ?_
 intro x hx c hc
 obtain⟨a,_,rfl⟩:=List.mem_map.1 hx
 have:c=.sl 1 (a.kids.map (dL h)) .none:=by simpa [AV.cells] using hc
 exact this ▸ cR h a.kids
theorem sW (h:Nat) (l:List (Vt h)) (hl:l.length < 10000) (hs:(bH h l).length < 1000000000):aO Tryz.prog 154 [.sl 1 (l.map (dL h)) .none] (.sl 1 ((bB l:List (Vt (h+1))).map (dL (h+1))) .none):=by
 refine aU (aX (cR h l)) (cR (h+1) _) ?_
 refine aC aF Tryz.func154 rfl (by decide) (by simp[Tryz.f154]) ?_
 have k0:=MM h l (by omega)
 have hlen:=fZ l
 have h20:(bB l).length≤2:=by rw[hlen];split<;>omega
 have hsub0:∀r,r∈bB l→(bH h r).length < 1000000000∧r.length≤l.length:=fun r hr=>⟨by have:=MU hr;omega,by
  unfold bB at hr
  split at hr
  ·simp at hr;rw[hr];exact Nat.le_refl _
  ·simp at hr
   rcases hr with rfl|rfl<;>simp<;>omega⟩
 obtain⟨rows,hrows⟩:∃rows:List (Vt (h+1)),rows=bB l:=⟨_,rfl⟩
 have h2:rows.length≤2:=by rw[hrows];exact h20
 have hsub:∀r,r∈rows→(bH h r.kids).length < 1000000000∧r.kids.length≤l.length:=by rw[hrows];exact hsub0
 have k:aO Tryz.prog 195 [.sl 1 (l.map (dL h)) .none] (LB h rows):=by rw[hrows];exact k0
 have hg:((bB l:List (Vt (h+1))).map (dL (h+1)))=rows.map (dL (h+1)):=by rw[hrows]
 rw[hg]
 unfold LB at k
 have la:((rows.map fun r=>AV.sl 1 (r.kids.map (dL h)) .none).length:Int)=(rows.length:Int):=by simp
 repeat' (first|refine zI rfl la ?_|refine zA rfl ?_|refine aA ?_|refine aL rfl ?_|refine aH rfl k ?_)
 refine bC rows.length (fun i f N=>∃(g:Nat),N=tokM g∧f=⟨[(3,.sl 1 ((rows.take i).map (dL (h+1))) (.tok 0 g)),(10,.sl 1 (rows.map fun r=>.sl 1 (r.kids.map (dL h)) .none) .full),(11,.int .i64 (rows.length:Int)),(12,.int .i64 (i:Int))],[]⟩) (Nat.zero_le _) ⟨0,rfl,rfl⟩
  ((aR.tok 3 rfl (sz':=1) (.inr rfl)).trans (aR.le ?_ (fF rfl rfl))) ?_
 ·skip
  repeat (refine AF.le_cons rfl ?_)
  exact AF.le_nil rfl
 ·rintro i f N hi ⟨g,rfl,rfl⟩
  by_cases h1:i < rows.length
  ·have d1:decide ((i:Int) < (rows.length:Int))=true:=by simp;omega
   have hx:rows[i]? =some rows[i]:=List.getElem?_eq_getElem h1
   have fi:=aZ (i:=i) (by omega)
   have hs:=bM hx
   have hrs:=hsub rows[i] (List.getElem_mem h1)
   generalize rows[i]=r at hx hs hrs
   have lr:((r.kids.map (dL h)).length:Int)=(r.kids.length:Int):=by simp
   repeat' (first|refine zB rfl d1 ?_|refine aA ?_|refine aL rfl ?_)
   refine zX rfl (fB hx) ?_
   repeat' (first|refine zI rfl (by first|exact fi|exact lr) ?_|refine zA rfl ?_|refine aA ?_|refine aL rfl ?_)
   refine bC r.kids.length (fun j f N=>N=aAf g [.sl 1 (r.kids.map (dL h)) .none,.int .i64 ((bH h (r.kids.take j)).length:Int)]∧f=⟨[(3,.sl 1 ((rows.take i).map (dL (h+1))) (.tok 0 g)),(6,.ptr 1 0),(10,.sl 1 (rows.map fun r=>.sl 1 (r.kids.map (dL h)) .none) .full),(11,.int .i64 (rows.length:Int)),(12,.int .i64 (i:Int)),(18,.sl 1 (r.kids.map (dL h)) .none),(19,.int .i64 (r.kids.length:Int)),(20,.int .i64 (j:Int))],[]⟩) (Nat.zero_le _) ⟨rfl,rfl⟩ (aR.le ?_ (PR rfl rfl rfl)) ?_
   ·skip
    repeat (refine AF.le_cons rfl ?_)
    exact AF.le_nil rfl
   ·rintro j f N hj ⟨rfl,rfl⟩
    by_cases h3:j < r.kids.length
    ·have d3:decide ((j:Int) < (r.kids.length:Int))=true:=by simp;omega
     have hy:r.kids[j]? =some r.kids[j]:=List.getElem?_eq_getElem h3
     have fj:=aZ (i:=j) (by omega)
     have ht:=DH hy
     have hle:=w7 r.kids (j+1)
     generalize r.kids[j]=y at hy ht
     rw[ht,List.length_append] at hle
     have w1:IntKind.wrap .i64 (((bH h (r.kids.take j)).length:Int)+((bE h y).length:Int))=((bH h (r.kids.take (j+1))).length:Int):=by
      rw[ht,List.length_append]
      exact (Go.Ab.wrap_small (by omega) (by omega)).trans (by omega)
     have ky:=WQ h y
     have my:=a9x h
     repeat' (first|refine zB rfl d3 ?_|refine aA ?_|refine aL rfl ?_)
     refine dG aF rfl rfl rfl rfl rfl rfl rfl rfl rfl rfl (Int.natCast_nonneg _) (fT hy) ?_
     repeat' (first|refine zA rfl ?_|refine aA ?_|refine aW mixed [2,3,0,1,4,5,6] [.R,.R,.P,.P,.P,.R,.E] rfl rfl (by kernel_rfl) ?_)
     refine cW rfl rfl rfl rfl rfl my ky ?_
     repeat' (first|refine zI rfl (by first|exact fj|exact w1) ?_|refine zA rfl ?_|refine aA ?_|refine aL rfl ?_)
     refine⟨h3,_,_,⟨rfl,rfl⟩,aR.le ?_ (PR rfl rfl rfl)⟩
     repeat (refine AF.le_cons rfl ?_)
     exact AF.le_nil rfl
    ·have d3:decide ((j:Int) < (r.kids.length:Int))=false:=by simp;omega
     obtain rfl:j=r.kids.length:=by omega
     repeat' (first|refine zB rfl d3 ?_|refine zI rfl fi ?_|refine zA rfl ?_|refine aA ?_|refine aL rfl ?_|refine zR rfl ?_|refine zP rfl rfl ?_)
     refine⟨h1,_,_,⟨g+1,rfl,rfl⟩,?_⟩
     refine aR.cut (k:=1) (Nat.zero_le _) (by show 1≤2;omega) rfl ⟨?_,?_,?_,?_,trivial⟩ ⟨by decide,rfl,trivial⟩
     ·rw[hs,←a1c (n:=((bH h (r.kids.take r.kids.length)).length:Int)) (by rw[List.take_length];rfl)]
      refine aI.tok (by decide) ?_
      intro x hx c hc
      have hx':x∈(rows.take i).map (dL (h+1))++[r].map (dL (h+1)):=by
       rw[List.take_length] at hx
       exact hx
      rw[←List.map_append] at hx'
      rw[wO (h+1) _ x hx'] at hc
      simp at hc
      exact hc ▸ qO (h+1) _ x hx'
     ·exact aI.of_closed (B4 h rows)
     ·exact aI.of_closed aB
     ·exact aI.of_closed aB
  ·have d1:decide ((i:Int) < (rows.length:Int))=false:=by simp;omega
   obtain rfl:i=rows.length:=by omega
   repeat' (first|refine zB rfl d1 ?_|refine zA rfl ?_|refine aA ?_|refine aL rfl ?_)
   rw[List.take_length]
   exact⟨rfl,_,rfl,_,rfl,aI.untag (cR (h+1) _)⟩
theorem DX (p:Pr) (l:List Pr):aO Tryz.prog 367 [.sl 3 ((p::l).map Pr.av) .none] p.key.av:=by
 refine aU (aX (bW _)) (iU _) ?_
 refine aC aF Tryz.func367 rfl (by decide) (by simp[Tryz.f367]) ?_
 repeat' (first|refine zA rfl ?_|refine aA ?_|refine aL rfl ?_)
 refine dG aF rfl rfl rfl rfl rfl rfl rfl rfl rfl rfl (Int.le_refl 0) rfl ?_
 repeat' (first|refine zA rfl ?_|refine aA ?_|refine aL rfl ?_)
 exact⟨rfl,_,rfl,_,rfl,aI.of_closed (iU _)⟩
def MS:Nat→FuncId
 |0=>367
 |_+1=>380
theorem LV (h:Nat):eW Tryz.prog (G7 h) "sexton/tree.first" =some (MS h):=by
 cases h
 ·show eW Tryz.prog 237 "sexton/tree.first" =some 367
  kernel_rfl
 ·show eW Tryz.prog 282 "sexton/tree.first" =some 380
  kernel_rfl
theorem RM {h:Nat} {x:Vt h} {l:List (Vt h)} (hx:bE h x≠[]):cS (h+1) (x::l)=cS h x:=by
 unfold cS
 have e:bE (h+1) (x::l)=bE h x++bH h l:=dU x l
 rw[e]
 cases hv:bE h x with
 |nil=>exact absurd hv hx
 |cons p r=>rfl
theorem ES (h:Nat) (x:Vt h) (l:List (Vt h)) (n:Int) (k:Ky) (hk:aO Tryz.prog (MS h) [tL h x] k.av):aO Tryz.prog 380 [.agg [.sl 1 ((x::l).map (dL h)) .none,.int .i64 n]] k.av:=by
 refine aU (aX (bU (aV (cR h _) aB))) (iU _) ?_
 refine aC aF Tryz.func380 rfl (by decide) (by simp[Tryz.f380]) ?_
 have my:=LV h
 repeat' (first|refine zA rfl ?_|refine aA ?_|refine aL rfl ?_)
 refine dG aF rfl rfl rfl rfl rfl rfl rfl rfl rfl rfl (Int.le_refl 0) (fT (l:=x::l) (i:=0) rfl) ?_
 repeat' (first|refine zA rfl ?_)
 refine cW rfl rfl rfl rfl rfl my hk ?_
 repeat' (first|refine zA rfl ?_|refine aA ?_|refine aL rfl ?_)
 exact⟨rfl,_,rfl,_,rfl,aI.of_closed (iU _)⟩
theorem uO:∀(h:Nat) (v:Vt h),(h=0→bE h v≠[])→(0 < h→kQ h v)→aO Tryz.prog (MS h) [tL h v] (cS h v).av
 |0,l,h0,_=>by
  have hne:l.row≠[]:=h0 rfl
  obtain⟨p,r,hl⟩:∃p r,l.row=p::r:=by
   cases hl:l.row with
   |nil=>exact absurd hl hne
   |cons p r=>exact⟨p,r,rfl⟩
  have e1:tL 0 l=.sl 3 ((p::r).map Pr.av) .none:=by show AV.sl 3 (l.row.map Pr.av) .none=_;rw[hl]
  have e2:cS 0 l=p.key:=by unfold cS;show ((l.row).headD _).key=_;rw[hl];rfl
  rw[e1,e2]
  exact DX p r
 |h+1,l,_,h1=>by
  obtain⟨k1,k2,k3⟩:=h1 (Nat.succ_pos h)
  obtain⟨x,r,hl⟩:∃x r,l.kids=x::r:=by
   cases hl:l.kids with
   |nil=>rw[hl] at k1;simp at k1
   |cons p r=>exact⟨p,r,rfl⟩
  have hx:kQ h x:=k3 x (by rw[hl];simp)
  have hne:=EV h x hx
  have e1:tL (h+1) l=.agg [.sl 1 ((x::r).map (dL h)) .none,.int .i64 ((bE (h+1) l).length:Int)]:=by
   show AV.agg [.sl 1 (l.kids.map (dL h)) .none,.int .i64 ((bE (h+1) l).length:Int)]=_
   rw[hl]
  have e2:cS (h+1) l=cS h x:=(show cS (h+1) l.kids=_ by rw[hl];exact RM hne)
  rw[e1,e2]
  exact ES h x r _ _ (uO h x (fun _=>hne) (fun _=>hx))
theorem RT (h:Nat) (x:Vt h) (hx:kQ h x) (k:Ky):aO Tryz.prog 387 [dL h x,.ref [.str k.path,.int .i64 k.time]] (.bool (bI k (cS h x))):=by
 have hk:=uO h x (fun _=>EV h x hx) (fun _=>hx)
 rw[gR]
 intro M
 refine aC aF Tryz.func387 rfl (by decide) (by simp[Tryz.f387]) ?_
 have my:=LV h
 have kl:=FR k (cS h x)
 rw[FD] at kl
 generalize cS h x=q at hk kl
 repeat' (first|refine zA rfl ?_|refine aA ?_|refine aL rfl ?_|refine aW mixed [1,2,0,3,4] [.R,.P,.P,.P,.P] rfl rfl (by kernel_rfl) ?_)
 refine cW rfl rfl rfl rfl rfl my hk ?_
 repeat' (first|refine zA rfl ?_|refine aA ?_|refine aL rfl ?_|refine aH rfl kl ?_)
 exact⟨rfl,_,rfl,rfl,rfl⟩
theorem sR (h:Nat) (l:List (Vt h)) (n:Int) (hl:l.length < 100000) (hv:∀v,v∈l→kQ h v) (k:Ky):aO Tryz.prog 384 [.agg [.sl 1 (l.map (dL h)) .none,.int .i64 n],k.av] (.int .i64 (bL l k:Int)):=by
 intro M
 refine aC aF Tryz.func384 rfl (by decide) (by simp[Tryz.f384]) ?_
 have kf:=RZ h l .none (by omega) 387 [] [.ref [.str k.path,.int .i64 k.time]] (fun v=>bI k (cS h v)) (fun x hx=>RT h x (hv x hx) k)
 have la:((l.map (dL h)).length:Int)=(l.length:Int):=by simp
 unfold r7 at kf
 unfold bL
 have hle:(l.findIdx fun v=>bI k (cS h v))≤l.length:=List.findIdx_le_length
 generalize (l.findIdx fun v=>bI k (cS h v))=j at kf hle
 have hmax:(if true=true then (if (j:Int) - 1 < 0 then 0 else (j:Int) - 1) else if 0 < (j:Int) - 1 then 0 else (j:Int) - 1)=((j - 1:Nat):Int):=by
  rw[if_pos rfl]
  split<;>omega
 have w1:IntKind.wrap .i64 ((j:Int) - 1)=(j:Int) - 1:=Go.Ab.wrap_small (by omega) (by omega)
 by_cases h1:j < l.length
 ·rw[if_pos h1] at kf
  have d1:decide ((j:Int) < 0)=false:=by simp
  repeat' (first|refine zB rfl d1 ?_|refine zI rfl (by first|exact la|exact w1|exact hmax) ?_|refine zA rfl ?_|refine aA ?_|refine aL rfl ?_|refine aH rfl kf ?_)
  exact⟨rfl,_,rfl,rfl,rfl⟩
 ·rw[if_neg h1] at kf
  obtain rfl:j=l.length:=by omega
  repeat' (first|refine zI rfl (by first|exact la|exact w1|exact hmax) ?_|refine zA rfl ?_|refine aA ?_|refine aL rfl ?_|refine aH rfl kf ?_)
  exact⟨rfl,_,rfl,rfl,rfl⟩
theorem x5 (h:Nat) (l:List (Vt h)) (n:Int) (hl:l.length < 10000) (i many:Nat) (him:i+many≤l.length) (m:List (Vt h)) (hm:m.length < 10000) (h0:0 < (dS l i many m).length):aO Tryz.prog 385 [.agg [.sl 1 (l.map (dL h)) .none,.int .i64 n],.int .i64 (i:Int),.int .i64 (many:Int),.sl 1 (m.map (dL h)) .none] (.sl 1 ((dS l i many m).map (dL h)) .none):=by
 intro M
 refine aC aF Tryz.func385 rfl (by decide) (by simp[Tryz.f385]) ?_
 have e:eV [(l.take i,false),(m,false),(l.drop (i+many),false)]=dS l i many m:=by simp[eV,dS]
 have hlen:(dS l i many m).length≤l.length+m.length:=by unfold dS;simp;omega
 have kc:=zZ h [(l.take i,false),(m,false),(l.drop (i+many),false)] true (by simp) (by rw[e];exact h0) (by rw[e];omega)
 rw[e] at kc
 have w1:IntKind.wrap .i64 ((i:Int)+(many:Int))=((i+many:Nat):Int):=(Go.Ab.wrap_small (by omega) (by omega)).trans (by omega)
 repeat' (first|refine zI rfl w1 ?_|refine zA rfl ?_|refine aA ?_|refine aL rfl ?_|refine aW mixed [2,4,7,8,9,0,1,3,5,6,10,11,12,13] [.R,.R,.P,.P,.P,.R,.R,.P,.P,.P,.P,.P,.P,.P] rfl rfl (by kernel_rfl) ?_)
 refine DE aF rfl rfl rfl rfl (n:=i) rfl rfl rfl rfl rfl rfl (by omega) ?_
 repeat' (first|refine zA rfl ?_)
 refine gO aF rfl rfl rfl rfl (lo:=i+many) rfl rfl rfl rfl rfl rfl him ?_
 repeat' (first|refine zA rfl ?_|refine aA ?_|refine aL rfl ?_|refine aH rfl kc ?_|refine zR rfl ?_)
 exact⟨rfl,_,rfl,rfl,rfl⟩
theorem NI (l:List Pr) (hl:l.length < 1000) (p:Pr):aO Tryz.prog 369 [.sl 3 (l.map Pr.av) .none,p.av] (.sl 1 ((gW 0 (l:Vt 0) p).map (dL 0)) .none):=by
 intro M
 refine aC aF Tryz.func369 rfl (by decide) (by simp[Tryz.f369]) ?_
 have k1:=a28 l (by omega) p
 have hp:=jX l p
 have k2:=CA (cQ l p) (by omega)
 repeat' (first|refine zA rfl ?_|refine aA ?_|refine aL rfl ?_|refine aH rfl k1 ?_|refine aH rfl k2 ?_)
 exact⟨rfl,_,rfl,rfl,rfl⟩
def a6u:Nat→FuncId
 |0=>369
 |_+1=>382
theorem aA4 (h:Nat):eW Tryz.prog (G7 h) "sexton/tree.put" =some (a6u h):=by
 cases h
 ·show eW Tryz.prog 237 "sexton/tree.put" =some 369
  kernel_rfl
 ·show eW Tryz.prog 282 "sexton/tree.put" =some 382
  kernel_rfl
theorem LU (h:Nat) (l:List (Vt h)) (n:Int) (p:Pr) (hl:l.length < 1000) (hv:∀v,v∈l→kQ h v) (x:Vt h) (hx:l[bL l p.key]? =some x) (r:List (Vt h)) (hr:r.length≤10) (hr0:0 < r.length) (hs:(bH h (dS l (bL l p.key) 1 r)).length < 1000000000)
  (hk:aO Tryz.prog (a6u h) [tL h x,p.av] (.sl 1 (r.map (dL h)) .none)):aO Tryz.prog 382 [.agg [.sl 1 (l.map (dL h)) .none,.int .i64 n],p.av] (.sl 1 ((bB (dS l (bL l p.key) 1 r):List (Vt (h+1))).map (dL (h+1))) .none):=by
 intro M
 refine aC aF Tryz.func382 rfl (by decide) (by simp[Tryz.f382]) ?_
 have kb:=sR h l n (by omega) hv p.key
 have hlt:=(List.getElem?_eq_some_iff.1 hx).1
 generalize bL l p.key=i at kb hx hs hlt
 have hlen:(dS l i 1 r).length≤l.length+r.length∧0 < (dS l i 1 r).length:=by unfold dS;simp;omega
 have kw:=x5 h l n (by omega) i 1 (by omega) r (by omega) hlen.2
 have kf:=sW h (dS l i 1 r) (by omega) hs
 have my:=aA4 h
 repeat' (first|refine zA rfl ?_|refine aA ?_|refine aL rfl ?_|refine aH rfl kb ?_|refine aW mixed [1,4,0,2,3,5,6,7,8,9,10,11] [.R,.P,.R,.R,.P,.R,.R,.R,.P,.P,.P,.P] rfl rfl (by kernel_rfl) ?_)
 refine dG aF rfl rfl rfl rfl rfl rfl rfl rfl rfl rfl (Int.natCast_nonneg _) (fT hx) ?_
 repeat' (first|refine zA rfl ?_)
 refine cW rfl rfl rfl rfl rfl my hk ?_
 repeat' (first|refine zA rfl ?_|refine aA ?_|refine aL rfl ?_|refine aH rfl kw ?_|refine aH rfl kf ?_)
 exact⟨rfl,_,rfl,rfl,rfl⟩
theorem PA:∀(h:Nat) (v:Vt h) (p:Pr),KG h v→bT (bE h v)→(bE h v).length < 100000000→aO Tryz.prog (a6u h) [tL h v,p.av] (.sl 1 ((gW h v p).map (dL h)) .none)
 |0,l,p,hv,_,_=>NI l.row (by have:l.row.length≤4:=hv;omega) p
 |h+1,l,p,hv,hr,hn=>by
  have hv':=hv
  obtain⟨h1,h2,h3⟩:=hv
  have h0:l.kids≠[]:=by intro he;rw[he] at h1;simp at h1
  obtain⟨a,v,b,e1,e2,e3,e4,e5⟩:=jT h0 h3 hr p.key
  have hvk:kQ h v:=h3 v (by rw[e1];simp)
  have hall:bE (h+1) l=bH h a++(bE h v++bH h b):=by
   show bH h l.kids=_
   rw[e1,bQ,dU]
  have hrv:bT (bE h v):=by rw[hall] at hr;exact lV hr
  have hnv:(bE h v).length < 100000000:=by rw[hall] at hn;simp at hn;omega
  obtain⟨i1,i2,i3⟩:=x8 h v p (j4 hvk) hrv
  have ih:=PA h v p (j4 hvk) hrv hnv
  have hw:dS l.kids (bL l.kids p.key) 1 (gW h v p)=a++(gW h v p++b):=by rw[e2,e1];exact tG
  have hp:=jX (bE h v) p
  have k:=LU h l.kids ((bE (h+1) l).length:Int) p (by omega) h3 v e3 (gW h v p) (by omega) i3 (by
   rw[hw,bQ,bQ,i1]
   rw[hall] at hn
   simp at hn ⊢
   omega) ih
  have hp2:gW (h+1) l p=bB (dS l.kids (bL l.kids p.key) 1 (gW h v p)):=by
   show bB (dS l.kids (bL l.kids p.key) 1 (match l.kids[bL l.kids p.key]? with
    |some kid=>gW h kid p
    |none=>[]))=_
   rw[e3]
  rw[hp2]
  exact k
theorem P3 (a b:Nat):(if true=true then (if (a:Int) - (b:Int) < 0 then 0 else (a:Int) - (b:Int)) else if 0 < (a:Int) - (b:Int) then 0 else (a:Int) - (b:Int))=((a - b:Nat):Int):=by
 rw[if_pos rfl]
 split<;>omega
theorem E7 (a b:Nat):(if false=true then (if (a:Int) < (b:Int) then (b:Int) else (a:Int)) else if (b:Int) < (a:Int) then (b:Int) else (a:Int))=((min a b:Nat):Int):=by
 rw[if_neg (by simp)]
 split<;>omega
theorem OD (l:List Pr) (i m:Nat):(l.take (min l.length (i+m))).drop i=(l.drop i).take m:=by
 rw[←List.take_take,List.take_of_length_le (l:=l.take (i+m)) (by simp;omega),List.drop_take]
 congr 1
 omega
theorem JV (l:List Pr) (hl:l.length < 1000) (k:Ky) (out:List Pr) (ho:out.length < 100000000) (n:Nat) (hn:n < 100000000) (g:Nat):
  aQ Tryz.prog 368 [.sl 3 (l.map Pr.av) .none,k.av,.sl 3 (out.map Pr.av) (.tok 0 g),.int .i64 (n:Int)] (tokM g) (fun e M'=>∃g',e=.ret (.sl 3 ((gF out n (dF l k)).map Pr.av) (.tok 0 g'))∧(tokM g').le M'):=by
 refine aC aF Tryz.func368 rfl (by decide) (by simp[Tryz.f368]) ?_
 have kf:=t8 l .none (by omega) k
 have hle:=o8 l k
 rw[CD]
 generalize dN l k=i at kf hle
 have la:((l.map Pr.av).length:Int)=(l.length:Int):=by simp
 have lo:((out.map Pr.av).length:Int)=(out.length:Int):=by simp
 have w1:IntKind.wrap .i64 ((n:Int) - (out.length:Int))=(n:Int) - (out.length:Int):=Go.Ab.wrap_small (by omega) (by omega)
 have hmax:=P3 n out.length
 have w2:IntKind.wrap .i64 ((i:Int)+((n - out.length:Nat):Int))=((i+(n - out.length):Nat):Int):=(Go.Ab.wrap_small (by omega) (by omega)).trans (by omega)
 have hmin:=E7 l.length (i+(n - out.length))
 have hcut:=OD l i (n - out.length)
 repeat' (first|refine zI rfl (by first|exact la|exact lo|exact w1|exact hmax|exact w2|exact hmin) ?_|refine zA rfl ?_|refine aA ?_|refine aL rfl ?_|refine aH rfl kf ?_)
 refine V0 aF rfl rfl rfl rfl (lo:=i) (n:=min l.length (i+(n - out.length))) rfl rfl rfl rfl rfl rfl rfl (by omega) (by omega) ?_
 rw[hcut]
 repeat' (first|refine zA rfl ?_|refine aA ?_|refine aL rfl ?_|refine zP rfl rfl ?_)
 exact⟨rfl,_,rfl,g+1,by unfold gF;rw[List.map_append];rfl,fF rfl rfl⟩
theorem FZ (l:List Pr) (hl:l.length < 1000) (k:Ky) (n:Nat) (hn:n < 100000000):
  aQ Tryz.prog 368 [.sl 3 (l.map Pr.av) .none,k.av,.sl 0 [] .full,.int .i64 (n:Int)] ⟨0,[]⟩ (fun e M'=>∃g',e=.ret (.sl 3 ((gF [] n (dF l k)).map Pr.av) (.tok 0 g'))∧(tokM g').le M'):=by
 refine aC aF Tryz.func368 rfl (by decide) (by simp[Tryz.f368]) ?_
 have kf:=t8 l .none (by omega) k
 have hle:=o8 l k
 rw[CD]
 generalize dN l k=i at kf hle
 have la:((l.map Pr.av).length:Int)=(l.length:Int):=by simp
 have lo:((([]:List AV)).length:Int)=(0:Nat):=by simp
 have w1:IntKind.wrap .i64 ((n:Int) - ((0:Nat):Int))=(n:Int) - ((0:Nat):Int):=Go.Ab.wrap_small (by omega) (by omega)
 have hmax:=P3 n 0
 have w2:IntKind.wrap .i64 ((i:Int)+((n - 0:Nat):Int))=((i+(n - 0):Nat):Int):=(Go.Ab.wrap_small (by omega) (by omega)).trans (by omega)
 have hmin:=E7 l.length (i+(n - 0))
 have hcut:=OD l i (n - 0)
 refine jR (aR.tok 2 rfl (sz':=3) (.inr rfl)) ?_
 repeat' (first|refine zI rfl (by first|exact la|exact lo|exact w1|exact hmax|exact w2|exact hmin) ?_|refine zA rfl ?_|refine aA ?_|refine aL rfl ?_|refine aH rfl kf ?_)
 refine V0 aF rfl rfl rfl rfl (lo:=i) (n:=min l.length (i+(n - 0))) rfl rfl rfl rfl rfl rfl rfl (by omega) (by omega) ?_
 rw[hcut]
 repeat' (first|refine zA rfl ?_|refine aA ?_|refine aL rfl ?_|refine zP rfl rfl ?_)
 exact⟨rfl,_,rfl,1,by unfold gF;rw[List.map_append];rfl,fF rfl rfl⟩
def WS:Nat→FuncId
 |0=>368
 |_+1=>381
theorem WB (h:Nat):eW Tryz.prog (G7 h) "sexton/tree.from" =some (WS h):=by
 cases h
 ·show eW Tryz.prog 237 "sexton/tree.from" =some 368
  kernel_rfl
 ·show eW Tryz.prog 282 "sexton/tree.from" =some 381
  kernel_rfl
def dV (out:List Pr) (n:Nat) (k:Ky) {h:Nat} (l:List (Vt h)) (i:Nat):List Pr:=gF out n (dF (bH h (l.take i)) k)
theorem DI (out:List Pr) (n:Nat) (l:List Pr):(gF out n l).length≤max out.length n:=by
 unfold gF
 simp
 omega
def LC (h:Nat):Prop:=∀(v:Vt h) (k:Ky) (out:List Pr) (n g:Nat),KG h v→bT (bE h v)→out.length < 100000000→n < 100000000→
  aQ Tryz.prog (WS h) [tL h v,k.av,.sl 3 (out.map Pr.av) (.tok 0 g),.int .i64 (n:Int)] (tokM g) (fun e M'=>∃g',e=.ret (.sl 3 ((gF out n (dF (bE h v) k)).map Pr.av) (.tok 0 g'))∧(tokM g').le M')
theorem D4 {h:Nat} {l:List (Vt h)} {k:Ky} {out:List Pr} {n:Nat} {i:Nat} {x:Vt h} (hx:l[i]? =some x) (hi:0 < i→∀p,p∈bE h x→bI p.key k=false):
  gF (dV out n k l i) n (dF (bE h x) k)=dV out n k l (i+1):=by
 unfold dV
 rw[DM,DH hx]
 congr 1
 by_cases h0:i=0
 ·subst h0
  have:bH h (l.take 0)=[]:=rfl
  rw[this]
  rfl
 ·rw[sG (hi (by omega))]
  congr 1
  unfold dF
  cases ha:bE h x with
  |nil=>rfl
  |cons q r=>rw[List.dropWhile_cons,if_neg (by rw[hi (by omega) q (by rw[ha];simp)];simp)]
theorem C2 {h:Nat} {l:List (Vt h)} {k:Ky} {out:List Pr} {n:Nat} {i:Nat} (hr:bT (bH h l)) (hf:n≤(dV out n k l i).length) (hb:0 < i∨n≤out.length) (hi:0 < i→∀p,p∈bH h (l.drop i)→bI p.key k=false):dV out n k l i=dV out n k l l.length:=by
 by_cases h0:i=0
 ·have ho:n≤out.length:=by omega
  unfold dV
  rw[r8 ho,r8 ho]
 ·have e:bH h (l.take l.length)=bH h (l.take i)++bH h (l.drop i):=by rw[List.take_length,←bQ,List.take_append_drop]
  unfold dV at hf ⊢
  rw[e,sG (hi (by omega)),←DM,r8 hf]
end Go.Proofs.YteliblifgdofgaaGreatDoor
