/- Parts of the proof, one behind the other. No further condition. -/
import Derived.Test.YteliblifgdofgaaGreatDoorK21
import Derived.Test.YteliblifgdofgaaGreatDoorK07
import Derived.Test.YteliblifgdofgaaGreatDoorK10
import Derived.Test.YteliblifgdofgaaGreatDoorK19
import Derived.Test.YteliblifgdofgaaGreatDoorK11
import Derived.Test.YteliblifgdofgaaGreatDoorK18
import Derived.Test.YteliblifgdofgaaGreatDoorK14
import Derived.Test.YteliblifgdofgaaGreatDoorK20
import Derived.Test.YteliblifgdofgaaGreatDoorK12
set_option linter.unusedVariables false
set_option linter.unusedSimpArgs false
set_option maxRecDepth 100000
set_option maxHeartbeats 8000000
namespace Go.Proofs.YteliblifgdofgaaGreatDoor
open Go.Ab
theorem SY (l:List Pr) (k:Ky):dA l k=l.take (dN l k)++(if n5 l k=true then l.drop (dN l k+1) else l.drop (dN l k)):=by
 induction l with
 |nil=>rfl
 |cons q r ih=>
  cases h:bI q.key k
  ·have e1:dN (q::r) k=0:=by unfold dN;rw[List.takeWhile_cons,if_neg (by simp[h])];rfl
   have e2:n5 (q::r) k=decide (q.key=k):=by unfold n5;rw[e1];rfl
   rw[dA,if_neg (by simp[h]),e1,e2]
   by_cases he:q.key=k
   ·simp[he]
   ·simp[he]
  ·have e1:dN (q::r) k=dN r k+1:=by unfold dN;rw[List.takeWhile_cons,if_pos h];rfl
   have e2:n5 (q::r) k=n5 r k:=by unfold n5;rw[e1];rfl
   rw[dA,if_pos h,e1,e2,ih]
   simp
theorem XW (l:List Pr) (hl:l.length < 100000) (k:Ky):aO Tryz.prog 370 [.sl 3 (l.map Pr.av) .none,k.av] (.sl 3 ((dA l k).map Pr.av) .none):=by
 intro M
 refine aC aF Tryz.func370 rfl (by decide) (by simp[Tryz.f370]) ?_
 have kf:=t8 l .none (by omega) k
 have hle:=o8 l k
 rw[SY]
 have hh:=@OL l k
 generalize dN l k=n at kf hle hh
 cases hp:n5 l k
 ·rw[hp] at kf
  rw[if_neg (by simp),List.take_append_drop]
  have kj:=kB [(l,false)] true (by simp) (by simp;omega)
  have e:d7 [(l,false)]=l:=by simp[d7]
  rw[e] at kj
  repeat' (first|refine zA rfl ?_|refine aA ?_|refine aL rfl ?_|refine aH rfl kf ?_|refine aH rfl kj ?_|refine zR rfl ?_)
  exact⟨rfl,_,rfl,rfl,rfl⟩
 ·have hlt:=hh hp
  rw[hp] at kf
  rw[if_pos rfl]
  have kj:=kB [(l.take n,false),(l.drop (n+1),false)] true (by simp) (by simp;omega)
  have e:d7 [(l.take n,false),(l.drop (n+1),false)]=l.take n++l.drop (n+1):=by simp[d7]
  rw[e] at kj
  have w1:=aZ (i:=n) (by omega)
  repeat' (first|refine zA rfl ?_|refine aA ?_|refine aL rfl ?_|refine aH rfl kf ?_|refine aW mixed [0,1,2,3,4,5,6,7,8,9] [.P,.P,.P,.P,.P,.P,.P,.P,.P,.P] rfl rfl (by kernel_rfl) ?_)
  refine DE aF rfl rfl rfl rfl (n:=n) rfl rfl rfl rfl rfl rfl hle ?_
  repeat' (first|refine zI rfl w1 ?_|refine zA rfl ?_)
  refine gO aF rfl rfl rfl rfl (lo:=n+1) rfl rfl rfl rfl rfl rfl (by omega) ?_
  repeat' (first|refine zA rfl ?_|refine aA ?_|refine aL rfl ?_|refine aH rfl kj ?_|refine zR rfl ?_)
  exact⟨rfl,_,rfl,rfl,rfl⟩
theorem II (l:List Pr) (hl:l.length < 100000) (k:Ky):aO Tryz.prog 366 [.sl 3 (l.map Pr.av) .none,k.av] (dL 0 (dA l k:Vt 0)):=by
 intro M
 refine aC aF Tryz.func366 rfl (by decide) (by simp[Tryz.f366]) ?_
 have kd:=XW l hl k
 repeat' (first|refine zA rfl ?_|refine aA ?_|refine aL rfl ?_|refine aH rfl kd ?_)
 exact⟨rfl,_,rfl,rfl,rfl⟩
def W6:Nat→FuncId
 |0=>366
 |_+1=>379
theorem a4q (h:Nat):eW Tryz.prog (G7 h) "sexton/tree.drop" =some (W6 h):=by
 cases h
 ·show eW Tryz.prog 237 "sexton/tree.drop" =some 366
  kernel_rfl
 ·show eW Tryz.prog 282 "sexton/tree.drop" =some 379
  kernel_rfl
theorem H6 (l:List Pr):aO Tryz.prog 394 [.sl 3 (l.map Pr.av) .none] (.int .i64 (l.length:Int)):=by
 intro M
 refine aC aF Tryz.func394 rfl (by decide) (by simp[Tryz.f394]) ?_
 have la:=bA Pr.av l
 repeat' (first|refine zI rfl la ?_|refine zA rfl ?_|refine aA ?_|refine aL rfl ?_)
 exact⟨rfl,_,rfl,rfl,rfl⟩
theorem G9 (h:Nat) (l:List (Vt h)) (n:Int):aO Tryz.prog 383 [.agg [.sl 1 (l.map (dL h)) .none,.int .i64 n]] (.int .i64 (l.length:Int)):=by
 intro M
 refine aC aF Tryz.func383 rfl (by decide) (by simp[Tryz.f383]) ?_
 have la:=bA (dL h) l
 repeat' (first|refine zI rfl la ?_|refine zA rfl ?_|refine aA ?_|refine aL rfl ?_)
 exact⟨rfl,_,rfl,rfl,rfl⟩
def a5b:Nat→FuncId
 |0=>394
 |_+1=>383
theorem a9j (h:Nat):eW Tryz.prog (G7 h) "sexton/tree.size" =some (a5b h):=by
 cases h
 ·show eW Tryz.prog 237 "sexton/tree.size" =some 394
  kernel_rfl
 ·show eW Tryz.prog 282 "sexton/tree.size" =some 383
  kernel_rfl
theorem a1i (h:Nat) (v:Vt h):aO Tryz.prog (a5b h) [tL h v] (.int .i64 (eY h v:Int)):=by
 cases h with
 |zero=>exact H6 v.row
 |succ h=>exact G9 h v.kids _
theorem V6 (a b:List Pr) (ha:a.length < 1000) (hb:b.length < 1000) (h0:0 < a.length+b.length):aO Tryz.prog 386 [dL 0 (a:Vt 0),dL 0 (b:Vt 0)] (.sl 1 ((eD 0 (a:Vt 0) (b:Vt 0)).map (dL 0)) .none):=by
 refine aU (aV (dJ 0 _) (dJ 0 _)) (cR 0 _) ?_
 refine aC aF Tryz.func386 rfl (by decide) (by simp[Tryz.f386]) ?_
 have kc:=LG [(a,false),(b,false)] true (by simp) (by simp[d7];omega) (by simp[d7];omega)
 have e:d7 [(a,false),(b,false)]=a++b:=by simp[d7]
 rw[e] at kc
 have kl:=CA (a++b) (by simp;omega)
 repeat' (first|refine zA rfl ?_|refine aA ?_|refine aL rfl ?_)
 refine c4 aF rfl rfl rfl rfl rfl ?_
 repeat' (first|refine zA rfl ?_|refine aA ?_|refine aL rfl ?_)
 refine c4 aF rfl rfl rfl rfl rfl ?_
 repeat' (first|refine zA rfl ?_|refine aA ?_|refine aL rfl ?_|refine aH rfl kc ?_|refine aH rfl kl ?_|refine zR rfl ?_)
 exact⟨rfl,_,rfl,_,rfl,aI.of_closed (cR 0 _)⟩
theorem WT (h:Nat) (a b:Vt (h+1)) (ha:a.kids.length < 1000) (hb:b.kids.length < 1000) (h0:0 < a.kids.length+b.kids.length) (hs:(bH h (a.kids++b.kids)).length < 1000000000):aO Tryz.prog 386 [dL (h+1) a,dL (h+1) b] (.sl 1 ((eD (h+1) a b).map (dL (h+1))) .none):=by
 refine aU (aV (dJ _ _) (dJ _ _)) (cR (h+1) _) ?_
 refine aC aF Tryz.func386 rfl (by decide) (by simp[Tryz.f386]) ?_
 have kc:=zZ h [(a.kids,false),(b.kids,false)] true (by simp) (by simp[eV];omega) (by simp[eV];omega)
 have e:eV [(a.kids,false),(b.kids,false)]=a.kids++b.kids:=by simp[eV]
 rw[e] at kc
 have kf:=sW h (a.kids++b.kids) (by simp;omega) hs
 rw[gR,gR]
 repeat' (first|refine zA rfl ?_|refine aA ?_|refine aL rfl ?_)
 refine c4 aF rfl rfl rfl rfl rfl ?_
 repeat' (first|refine zA rfl ?_|refine aA ?_|refine aL rfl ?_)
 refine c4 aF rfl rfl rfl rfl rfl ?_
 repeat' (first|refine zA rfl ?_|refine aA ?_|refine aL rfl ?_)
 refine c4 aF rfl rfl rfl rfl rfl ?_
 repeat' (first|refine zA rfl ?_|refine aA ?_|refine aL rfl ?_|refine aH rfl kc ?_|refine aH rfl kf ?_|refine zR rfl ?_)
 exact⟨rfl,_,rfl,_,rfl,aI.of_closed (cR (h+1) _)⟩
theorem IU (h:Nat) (a b:Vt h) (ha:eY h a < 1000) (hb:eY h b < 1000) (h0:0 < eY h a+eY h b) (hs:(bE h a++bE h b).length < 1000000000):aO Tryz.prog 386 [dL h a,dL h b] (.sl 1 ((eD h a b).map (dL h)) .none):=by
 cases h with
 |zero=>exact V6 a.row b.row ha hb h0
 |succ h=>exact WT h a b ha hb h0 (by rw[bQ];exact hs)
theorem RL {h:Nat} {l:Vt (h+1)} {k:Ky} (hv:kQ (h+1) l) (hr:bT (bE (h+1) l)):1≤(bD (h+1) l k).kids.length∧(bD (h+1) l k).kids.length≤4:=by
 have h1:=(nW (h+1) l k hv hr).2.1 hv
 exact⟨h1.1,h1.2.1⟩
theorem YC {α:Type} {c b m:List α} {y x:α}:dS ((c++[y])++x::b) c.length 2 m=c++(m++b):=by
 unfold dS
 simp
theorem J2 (h:Nat) (l:Vt (h+1)) (hv:kQ (h+1) l) (hr:bT (bE (h+1) l)) (hn:(bE (h+1) l).length < 10000000) (k:Ky) (ih:∀v:Vt h,kQ h v→bT (bE h v)→(bE h v).length < 10000000→aO Tryz.prog (W6 h) [tL h v,k.av] (dL h (bD h v k))):aO Tryz.prog 379 [.agg [.sl 1 (l.kids.map (dL h)) .none,.int .i64 ((bE (h+1) l).length:Int)],k.av] (dL (h+1) (bD (h+1) l k)):=by
 intro M
 refine aC aF Tryz.func379 rfl (by decide) (by simp[Tryz.f379]) ?_
 have hv':=hv
 obtain⟨h1,h2,h3⟩:=hv'
 have kb:=sR h l.kids ((bE (h+1) l).length:Int) (by omega) h3 k
 have hdl:=RL (k:=k) hv hr
 have hda:=(nW (h+1) l k hv hr).1
 have hdn:=nN (bE (h+1) l) k
 rw[←hda] at hdn
 obtain⟨a,v,b,e1,e2,e3,e4,e5,e6,e7⟩:=D6 (k:=k) hv hr
 rw[e2] at kb
 have hall:(bE (h+1) l).length=(bH h a).length+((bE h v).length+(bH h b).length):=by
  show (bH h l.kids).length=_
  rw[e1,bQ,dU,List.length_append,List.length_append]
 have kv:=ih v e3 e4 (by omega)
 have hdv:=nW h v k (j4 e3) e4
 have hx:l.kids[a.length]? =some v:=by rw[e1];simp
 have hal:a.length+b.length+1≤4:=by
  have:=congrArg List.length e1
  simp at this
  omega
 have hdnv:=nN (bE h v) k
 rw[←hdv.1] at hdnv
 have hsv:=G8 (hdv.2.1 e3)
 have ks:=a1i h (bD h v k)
 have md:=a4q h
 have ms:=a9j h
 have kf:=sW h (bD (h+1) l k).kids (by omega) (by show (bE (h+1) (bD (h+1) l k)).length < _;omega)
 have hsm:(bB (bD (h+1) l k).kids:List (Vt (h+1)))=[(bD (h+1) l k:Vt (h+1))]:=FU hdl.2
 rw[hsm] at kf
 have hi0:([(bD (h+1) l k:Vt (h+1))])[0]? =some (bD (h+1) l k):=rfl
 have hre:dL (h+1) (bD (h+1) l k)=.iface (G7 (h+1)) (tL (h+1) (bD (h+1) l k)):=gR _ _
 rw[hre]
 rw[gR] at kv
 rcases e7 with ⟨g1,g2⟩|⟨g1,c,y,g2,g3⟩|⟨g1,g2,y,c,g3,g4⟩
 ·have hw:dS l.kids a.length 1 [bD h v k]=(bD (h+1) l k).kids:=by rw[e1,tG];exact g2.symm
  have kw:=x5 h l.kids ((bE (h+1) l).length:Int) (by omega) a.length 1 (by have:=congrArg List.length e1;simp at this;omega) [bD h v k] (by simp) (by rw[hw];omega)
  rw[hw] at kw
  have kw:=kw.sub (args:=[.agg [.sl 1 (l.kids.map (dL h)) .none,.int .i64 ((bE (h+1) l).length:Int)],.int .i64 (a.length:Int),.int .i64 ((1:Nat):Int),.sl 1 [.iface (G7 h) (tL h (bD h v k))] .full]) ⟨Sub.refl,Sub.refl,Sub.refl,by rw[←gR];exact Sub.untag,trivial⟩
  have d1:decide ((2:Int)≤(eY h (bD h v k):Int))=true:=decide_eq_true (by omega)
  generalize (bD (h+1) l k)=D at*
  repeat' (first|refine zA rfl ?_|refine aA ?_|refine aL rfl ?_|refine aH rfl kb ?_|refine aW mixed [2,0,1,3,4,5,6,7] [.R,.R,.P,.R,.R,.R,.P,.P] rfl rfl (by kernel_rfl) ?_)
  refine dG aF rfl rfl rfl rfl rfl rfl rfl rfl rfl rfl (Int.natCast_nonneg _) (fT hx) ?_
  repeat' (first|refine zA rfl ?_)
  refine cW rfl rfl rfl rfl rfl md kv ?_
  repeat' (first|refine zA rfl ?_|refine aA ?_|refine aL rfl ?_)
  refine cW rfl rfl rfl rfl rfl ms ks ?_
  repeat' (first|refine zB rfl d1 ?_|refine zA rfl ?_|refine aA ?_|refine aL rfl ?_|refine aH rfl kw ?_|refine aH rfl kf ?_|refine zX rfl (⟨Int.le_refl 0,fT (i:=0) hi0⟩) ?_|refine zR rfl ?_)
  exact⟨rfl,_,rfl,rfl,rfl⟩
 ·subst g2
  have hsy:kQ h y:=h3 y (by rw[e1];simp)
  have hy2:=sC hsy
  have hw:dS l.kids c.length 2 (eD h y (bD h v k))=(bD (h+1) l k).kids:=by rw[e1,YC];exact g3.symm
  have kj:=IU h y (bD h v k) (by omega) (by omega) (by omega) (by
   have hyl:(bH h (c++[y])).length=(bH h c).length+(bE h y).length:=by rw[bQ,A6,List.length_append]
   rw[List.length_append]
   omega)
  have hjl:=s5 h y (bD h v k) (by omega)
  have hjl2:(eD h y (bD h v k)).length≤2:=by rw[hjl];split<;>omega
  have kw:=x5 h l.kids ((bE (h+1) l).length:Int) (by omega) c.length 2 (by have:=congrArg List.length e1;simp at this;omega) (eD h y (bD h v k)) (by omega) (by rw[hw];omega)
  rw[hw] at kw
  have d1:decide ((2:Int)≤(eY h (bD h v k):Int))=false:=by simp;omega
  have la:(c++[y]).length=c.length+1:=by simp
  have d2:decide ((0:Int) < ((c++[y]).length:Int))=true:=by rw[la];exact decide_eq_true (by omega)
  have w1:IntKind.wrap .i64 (((c++[y]).length:Int) - 1)=(c.length:Int):=by
   rw[la]
   exact (Go.Ab.wrap_small (by omega) (by omega)).trans (by omega)
  have hxy:l.kids[c.length]? =some y:=by rw[e1];simp
  rw[gR,gR] at kj
  generalize (bD (h+1) l k)=D at*
  repeat' (first|refine zA rfl ?_|refine aA ?_|refine aL rfl ?_|refine aH rfl kb ?_|refine aW mixed [2,0,1,3,4,5,6,7] [.R,.R,.P,.R,.R,.R,.P,.P] rfl rfl (by kernel_rfl) ?_)
  refine dG aF rfl rfl rfl rfl rfl rfl rfl rfl rfl rfl (Int.natCast_nonneg _) (fT hx) ?_
  repeat' (first|refine zA rfl ?_)
  refine cW rfl rfl rfl rfl rfl md kv ?_
  repeat' (first|refine zA rfl ?_|refine aA ?_|refine aL rfl ?_)
  refine cW rfl rfl rfl rfl rfl ms ks ?_
  repeat' (first|refine zB rfl (by first|exact d1|exact d2) ?_|refine zI rfl w1 ?_|refine zA rfl ?_|refine aA ?_|refine aL rfl ?_|refine aH rfl kj ?_|refine aH rfl kw ?_|refine aH rfl kf ?_|refine zX rfl (⟨Int.natCast_nonneg _,fT hxy⟩) ?_|refine zX rfl (⟨Int.le_refl 0,fT (i:=0) hi0⟩) ?_|refine aW mixed [1,2,5,6,9,0,3,4,7,8,10,11,12,13,14,15] [.R,.P,.P,.R,.R,.P,.P,.R,.R,.P,.P,.P,.P,.R,.R,.P] rfl rfl (by kernel_rfl) ?_)
  exact⟨rfl,_,rfl,rfl,rfl⟩
 ·subst g2
  subst g3
  have hsy:kQ h y:=h3 y (by rw[e1];simp)
  have hy2:=sC hsy
  have hw:dS l.kids 0 2 (eD h (bD h v k) y)=(bD (h+1) l k).kids:=by
   rw[e1]
   unfold dS
   exact g4.symm
  have kj:=IU h (bD h v k) y (by omega) (by omega) (by omega) (by
   rw[List.length_append]
   rw[dU,List.length_append] at hall
   omega)
  have hjl:=s5 h (bD h v k) y (by omega)
  have hjl2:(eD h (bD h v k) y).length≤2:=by rw[hjl];split<;>omega
  have kw:=x5 h l.kids ((bE (h+1) l).length:Int) (by omega) 0 2 (by have:=congrArg List.length e1;simp at this;omega) (eD h (bD h v k) y) (by omega) (by rw[hw];omega)
  rw[hw] at kw
  have d1:decide ((2:Int)≤(eY h (bD h v k):Int))=false:=by simp;omega
  have hxy:l.kids[1]? =some y:=by rw[e1];rfl
  rw[gR,gR] at kj
  generalize (bD (h+1) l k)=D at*
  repeat' (first|refine zA rfl ?_|refine aA ?_|refine aL rfl ?_|refine aH rfl kb ?_|refine aW mixed [2,0,1,3,4,5,6,7] [.R,.R,.P,.R,.R,.R,.P,.P] rfl rfl (by kernel_rfl) ?_)
  refine dG aF rfl rfl rfl rfl rfl rfl rfl rfl rfl rfl (Int.le_refl 0) (fT (i:=0) hx) ?_
  repeat' (first|refine zA rfl ?_)
  refine cW rfl rfl rfl rfl rfl md kv ?_
  repeat' (first|refine zA rfl ?_|refine aA ?_|refine aL rfl ?_)
  refine cW rfl rfl rfl rfl rfl ms ks ?_
  repeat' (first|refine zB rfl d1 ?_|refine zA rfl ?_|refine aA ?_|refine aL rfl ?_|refine aH rfl kj ?_|refine aH rfl kw ?_|refine aH rfl kf ?_|refine zX rfl (⟨Int.le_of_lt Int.one_pos,fT (i:=1) hxy⟩) ?_|refine zX rfl (⟨Int.le_refl 0,fT (i:=0) hi0⟩) ?_|refine aW mixed [1,0,2,3,4,5,6,7,8,9,10,11] [.R,.P,.R,.R,.R,.R,.P,.P,.P,.R,.R,.P] rfl rfl (by kernel_rfl) ?_)
  exact⟨rfl,_,rfl,rfl,rfl⟩
theorem JU:∀(h:Nat) (v:Vt h) (k:Ky),KG h v→bT (bE h v)→(bE h v).length < 10000000→aO Tryz.prog (W6 h) [tL h v,k.av] (dL h (bD h v k))
 |0,l,k,hv,_,_=>II l.row (by have:l.row.length≤4:=hv;omega) k
 |h+1,l,k,hv,hr,hn=>J2 h l hv hr hn k (fun v e3 e4 e5=>JU h v k (j4 e3) e4 e5)
theorem a4k {h:Nat} {v:Vt (h+1)} (hv:okD (h+1) v) (h1:¬1 < v.kids.length):∃x:Vt h,v.kids=[x]∧kQ h x∧bE (h+1) v=bE h x:=by
 obtain⟨a,b,c⟩:=hv
 match hk:v.kids,a,h1,c with
 |[],a,_,_=>simp at a
 |[x],_,_,c=>
  refine⟨x,rfl,c x (by simp),?_⟩
  show (v.kids.map (bE h)).flatten=_
  rw[hk]
  simp
 |x::y::r,_,h1,_=>simp at h1
def l5 (v:AV):AF:=⟨[(5,v)],[]⟩
theorem QR (t:Tr) (k:Ky) (hs:t.all.length < 10000000):∃u:Tr,u.all=dA t.all k∧aQ Tryz.prog 314 [t.av,k.av] ⟨0,[]⟩ fun e _=>∃x,e=.ret x∧aI 0 x u.av:=by
 obtain⟨h,v,hv,hr⟩:=t
 have hs':(bE h v).length < 10000000:=hs
 have kt:=AP ⟨h,v,hv,hr⟩
 have kd:=JU h v k hv hr hs'
 have md:=a4q h
 obtain⟨a1,a2,a3⟩:=nW h v k hv hr
 have hdr:=y4 (k:=k) hr
 cases h with
 |zero=>
  have o1:KG 0 (bD 0 v k):=by
   show (dA v.row k).length≤4
   have:=nN v.row k
   have:v.row.length≤4:=hv
   omega
  have o2:bT (bE 0 (bD 0 v k)):=by rw[a1];exact hdr
  refine⟨⟨0,bD 0 v k,o1,o2⟩,a1,?_⟩
  have hc:=bG ⟨0,bD 0 v k,o1,o2⟩
  refine aC aF Tryz.func314 rfl (by decide) (by simp[Tryz.f314]) ?_
  rw[gR] at kd
  repeat' (first|refine zA rfl ?_|refine aA ?_|refine aL rfl ?_|refine aH rfl kt ?_|refine aW mixed [0,1,2,3,4] [.P,.P,.R,.P,.P] rfl rfl (by kernel_rfl) ?_)
  refine cW rfl rfl rfl rfl rfl md kd ?_
  repeat' (first|refine zA rfl ?_|refine aA ?_|refine aL rfl ?_)
  refine lB (fun c f N=>N=⟨0,[]⟩∧f=l5 (.iface (G7 0) (tL 0 (bD 0 v k)))) (k:=0) ⟨rfl,rfl⟩ (aR.le ?_ (aG.le_nil rfl)) ?_
  ·unfold l5
   repeat (refine AF.le_cons rfl ?_)
   exact AF.le_nil rfl
  rintro c f N ⟨rfl,rfl⟩
  unfold l5
  repeat' (first|refine zA rfl ?_|refine aL rfl ?_)
  refine c4 aF rfl rfl rfl rfl rfl ?_
  repeat' (first|refine zA rfl ?_|refine aA ?_|refine aL rfl ?_)
  exact⟨rfl,_,rfl,_,rfl,aI.of_closed hc⟩
 |succ h=>
  have hd:=a2 hv
  rw[gR] at kd
  by_cases h1:1 < (bD (h+1) v k).kids.length
  ·have o1:KG (h+1) (bD (h+1) v k):=PW hd h1
   have o2:bT (bE (h+1) (bD (h+1) v k)):=by rw[a1];exact hdr
   refine⟨⟨h+1,bD (h+1) v k,o1,o2⟩,a1,?_⟩
   have hc:=bG ⟨h+1,bD (h+1) v k,o1,o2⟩
   have la:=bA (dL h) (bD (h+1) v k).kids
   have d1:decide ((1:Int) < ((bD (h+1) v k).kids.length:Int))=true:=by simp;omega
   refine aC aF Tryz.func314 rfl (by decide) (by simp[Tryz.f314]) ?_
   repeat' (first|refine zA rfl ?_|refine aA ?_|refine aL rfl ?_|refine aH rfl kt ?_|refine aW mixed [0,1,2,3,4] [.P,.P,.R,.P,.P] rfl rfl (by kernel_rfl) ?_)
   refine cW rfl rfl rfl rfl rfl md kd ?_
   repeat' (first|refine zA rfl ?_|refine aA ?_|refine aL rfl ?_)
   refine lB (fun c f N=>N=⟨0,[]⟩∧f=l5 (.iface (G7 (h+1)) (tL (h+1) (bD (h+1) v k)))) (k:=0) ⟨rfl,rfl⟩ (aR.le ?_ (aG.le_nil rfl)) ?_
   ·unfold l5
    repeat (refine AF.le_cons rfl ?_)
    exact AF.le_nil rfl
   rintro c f N ⟨rfl,rfl⟩
   unfold l5
   repeat' (first|refine zA rfl ?_|refine aL rfl ?_)
   refine c4 aF rfl rfl rfl rfl rfl ?_
   repeat' (first|refine zB rfl d1 ?_|refine zI rfl la ?_|refine zA rfl ?_|refine aA ?_|refine aL rfl ?_)
   exact⟨rfl,_,rfl,_,rfl,aI.of_closed hc⟩
  ·obtain⟨x,hx,ox,hall⟩:=a4k hd h1
   have o1:KG h x:=j4 ox
   have o2:bT (bE h x):=by rw[←hall,a1];exact hdr
   refine⟨⟨h,x,o1,o2⟩,(hall.symm.trans a1),?_⟩
   have hc:=bG ⟨h,x,o1,o2⟩
   have la:=bA (dL h) (bD (h+1) v k).kids
   have d1:decide ((1:Int) < ((bD (h+1) v k).kids.length:Int))=false:=by simp;omega
   have hx0:(bD (h+1) v k).kids[0]? =some x:=by rw[hx];rfl
   refine aC aF Tryz.func314 rfl (by decide) (by simp[Tryz.f314]) ?_
   repeat' (first|refine zA rfl ?_|refine aA ?_|refine aL rfl ?_|refine aH rfl kt ?_|refine aW mixed [0,1,2,3,4] [.P,.P,.R,.P,.P] rfl rfl (by kernel_rfl) ?_)
   refine cW rfl rfl rfl rfl rfl md kd ?_
   repeat' (first|refine zA rfl ?_|refine aA ?_|refine aL rfl ?_)
   refine lB (fun c f N=>N=⟨0,[]⟩∧((c=1∧f=l5 (.iface (G7 (h+1)) (tL (h+1) (bD (h+1) v k))))∨(c=0∧f=l5 (.iface (G7 h) (tL h x))))) (k:=1) ⟨rfl,.inl ⟨rfl,rfl⟩⟩ (aR.le ?_ (aG.le_nil rfl)) ?_
   ·unfold l5
    repeat (refine AF.le_cons rfl ?_)
    exact AF.le_nil rfl
   rintro c f N ⟨rfl,⟨rfl,rfl⟩|⟨rfl,rfl⟩⟩
   ·unfold l5
    repeat' (first|refine zA rfl ?_|refine aL rfl ?_)
    refine c4 aF rfl rfl rfl rfl rfl ?_
    repeat' (first|refine zB rfl d1 ?_|refine zI rfl la ?_|refine zA rfl ?_|refine aA ?_|refine aL rfl ?_|refine zX rfl (⟨Int.le_refl 0,fT (i:=0) hx0⟩) ?_)
    refine⟨0,l5 (.iface (G7 h) (tL h x)),⟨0,[]⟩,by decide,⟨rfl,.inr ⟨rfl,rfl⟩⟩,aR.cut (k:=0) (t:=(l5 (.iface (G7 h) (tL h x))).t) (l:=[]) (Nat.le_refl _) (Nat.zero_le _) rfl ⟨?_,trivial⟩ trivial⟩
    rw[←gR]
    exact aI.of_closed (dJ h x)
   ·cases h with
    |zero=>
     unfold l5
     repeat' (first|refine zA rfl ?_|refine aL rfl ?_)
     refine c4 aF rfl rfl rfl rfl rfl ?_
     repeat' (first|refine zA rfl ?_|refine aA ?_|refine aL rfl ?_)
     exact⟨rfl,_,rfl,_,rfl,aI.of_closed hc⟩
    |succ h=>
     have h2:2≤x.kids.length:=ox.1
     have lb:=bA (dL h) x.kids
     have d2:decide ((1:Int) < (x.kids.length:Int))=true:=by simp;omega
     unfold l5
     repeat' (first|refine zA rfl ?_|refine aL rfl ?_)
     refine c4 aF rfl rfl rfl rfl rfl ?_
     repeat' (first|refine zB rfl d2 ?_|refine zI rfl lb ?_|refine zA rfl ?_|refine aA ?_|refine aL rfl ?_)
     exact⟨rfl,_,rfl,_,rfl,aI.of_closed hc⟩
theorem yF (t:Tr) (k:Ky) (hs:t.all.length < 10000000):∃u:Tr,u.all=dA t.all k∧aO Tryz.prog 314 [t.av,k.av] u.av:=by
 obtain⟨u,h1,h2⟩:=QR t k hs
 exact⟨u,h1,aU (aV (bG t) (iU k)) (bG u) h2⟩
noncomputable def vQ (t:Tr) (k:Ky):Tr:=if h:t.all.length < 10000000 then Classical.choose (yF t k h) else t
theorem QB {t:Tr} {k:Ky} (h:t.all.length < 10000000):(vQ t k).all=dA t.all k:=by
 unfold vQ
 rw[dif_pos h]
 exact (Classical.choose_spec (yF t k h)).1
theorem VS {t:Tr} {k:Ky} (h:t.all.length < 10000000):aO Tryz.prog 314 [t.av,k.av] (vQ t k).av:=by
 unfold vQ
 rw[dif_pos h]
 exact (Classical.choose_spec (yF t k h)).2
theorem aQ.frame2 {g:FuncId} {args args1 c1 c2 d1 d2:List AV} {r:AV} {M:aG} (i j:Nat) (hne:i≠j) (hM1:M.get i=some (.cells c1)) (hM2:M.get j=some (.cells c2)) (h1:i < M.next) (h2:j < M.next) (k1:∀x,x∈c1→aN x) (k2:∀x,x∈c2→aN x)
  (h:aQ Tryz.prog g args1 ⟨2,[(0,.cells c1),(1,.cells c2)]⟩ fun e N=>e=.ret r∧N=⟨2,[(0,.cells d1),(1,.cells d2)]⟩) (hargs:B0 [i,j] args args1) (hr:aN r) (q1:∀x,x∈d1→aN x) (q2:∀x,x∈d2→aN x):
  aQ Tryz.prog g args M fun e N=>e=.ret r∧N=(M.set i (.cells d1)).set j (.cells d2):=by
 refine aQ.frame [i,j] (by simp[hne]) (by intro k hk;simp at hk;rcases hk with rfl|rfl<;>assumption) (N0:=⟨2,[(0,.cells c1),(1,.cells c2)]⟩) rfl ?_ h hargs ?_
 ·intro k o1 hk
  have hk':(if k=0 then some (c7.cells c1) else if k=1 then some (.cells c2) else none)=some o1:=hk
  split at hk'
  ·rename_i h0
   subst h0
   cases hk'
   exact⟨i,_,rfl,hM1,B0.closed k1⟩
  ·split at hk'
   ·rename_i h0
    subst h0
    cases hk'
    exact⟨j,_,rfl,hM2,B0.closed k2⟩
   ·cases hk'
 ·rintro e M1 ⟨rfl,rfl⟩
  refine⟨.ret r,(M.set i (.cells d1)).set j (.cells d2),eP.closed hr,⟨by show M.next=M.next+(2 - 2);omega,?_⟩,rfl,rfl⟩
  intro k o hk
  rw[aG.get_set] at hk
  split at hk
  ·rename_i h0
   cases hk
   exact .inl ⟨1,_,.inl (by rw[h0];rfl),rfl,oK.closed q2⟩
  ·rename_i h0
   rw[aG.get_set] at hk
   split at hk
   ·rename_i h3
    cases hk
    exact .inl ⟨0,_,.inl (by rw[h3];rfl),rfl,oK.closed q1⟩
   ·rename_i h3
    exact .inr ⟨by simp;exact⟨h3,h0⟩,hk⟩
def fW (s:Option aD) (p:Pr) (w:Int):Bool×Option aD:=if w < p.key.time then (true,s) else (!decide (s=some p.key.path)&&!(bY p.val).2.1,some p.key.path)
def kC (s:Option aD):List AV:=[.str (s.getD [])]
def kA (s:Option aD):List AV:=[.bool s.isSome]
theorem UF (p:Pr) (s:Option aD) (w:Int) (hv:p.val.length < 1000000):aQ Tryz.prog 340 [p.av,.ref [.int .i64 w],.ptr 1 0,.ptr 0 0] ⟨2,[(0,.cells (kC s)),(1,.cells (kA s))]⟩ (fun e N=>∃x,e=.ret x∧aI 2 x (.bool (fW s p w).1)∧2≤N.next∧gE 2 N [(0,.cells (kC (fW s p w).2)),(1,.cells (kA (fW s p w).2))]):=by
 refine aC aF Tryz.func340 rfl (by decide) (by simp[Tryz.f340]) ?_
 have kr:=wP p.val hv
 have fin:∀(N:aG) (s:Option aD),N.get 0=some (.cells (kC s))→N.get 1=some (.cells (kA s))→gE 2 N [(0,.cells (kC s)),(1,.cells (kA s))]:=fun N s h0 h1=>cG (by decide) h0 (aX aP) (cG (by decide) h1 (aX aK) trivial)
 unfold fW
 by_cases h:w < p.key.time
 ·have d1:decide (w < p.key.time)=true:=by simp[h]
  rw[if_pos h]
  unfold kC kA
  repeat' (first|refine zB rfl d1 ?_|refine zA rfl ?_|refine aA ?_|refine aL rfl ?_)
  exact⟨rfl,_,rfl,_,rfl,aI.of_closed aK,Nat.le_refl 2,fin _ s rfl rfl⟩
 ·have d1:decide (w < p.key.time)=false:=by simp[h]
  rw[if_neg h]
  generalize bY p.val=x at*
  obtain⟨m,g,e⟩:=x
  unfold rmA at kr
  cases s with
  |none=>
   unfold kC kA
   cases g
   ·repeat' (first|refine zB rfl d1 ?_|refine zA rfl ?_|refine aA ?_|refine aL rfl ?_|refine aH rfl kr ?_)
    exact⟨rfl,_,rfl,_,rfl,aI.of_closed aK,(by show 2≤3;omega),fin _ (some p.key.path) rfl rfl⟩
   ·repeat' (first|refine zB rfl d1 ?_|refine zA rfl ?_|refine aA ?_|refine aL rfl ?_|refine aH rfl kr ?_)
    exact⟨rfl,_,rfl,_,rfl,aI.of_closed aK,(by show 2≤3;omega),fin _ (some p.key.path) rfl rfl⟩
  |some q=>
   have e1:decide (some q=some p.key.path)=(p.key.path==q):=by
    rw[Bool.eq_iff_iff]
    simp
    exact⟨fun h=>h.symm,fun h=>h.symm⟩
   rw[e1]
   unfold kC kA
   cases hq:p.key.path==q
   ·have d2:(!(p.key.path==q))=true:=by rw[hq];rfl
    cases g
    ·repeat' (first|refine zB rfl (by first|exact d1|exact d2) ?_|refine zA rfl ?_|refine aA ?_|refine aL rfl ?_|refine aH rfl kr ?_)
     exact⟨rfl,_,rfl,_,rfl,aI.of_closed aK,(by show 2≤3;omega),fin _ (some p.key.path) rfl rfl⟩
    ·repeat' (first|refine zB rfl (by first|exact d1|exact d2) ?_|refine zA rfl ?_|refine aA ?_|refine aL rfl ?_|refine aH rfl kr ?_)
     exact⟨rfl,_,rfl,_,rfl,aI.of_closed aK,(by show 2≤3;omega),fin _ (some p.key.path) rfl rfl⟩
   ·have d2:(!(p.key.path==q))=false:=by rw[hq];rfl
    cases g
    ·repeat' (first|refine zB rfl (by first|exact d1|exact d2) ?_|refine zA rfl ?_|refine aA ?_|refine aL rfl ?_|refine aH rfl kr ?_)
     exact⟨rfl,_,rfl,_,rfl,aI.of_closed aK,(by show 2≤3;omega),fin _ (some p.key.path) rfl rfl⟩
    ·repeat' (first|refine zB rfl (by first|exact d1|exact d2) ?_|refine zA rfl ?_|refine aA ?_|refine aL rfl ?_|refine aH rfl kr ?_)
     exact⟨rfl,_,rfl,_,rfl,aI.of_closed aK,(by show 2≤3;omega),fin _ (some p.key.path) rfl rfl⟩
theorem ZC (p:Pr) (s:Option aD) (w:Int) (hv:p.val.length < 1000000):aQ Tryz.prog 340 [p.av,.ref [.int .i64 w],.ptr 1 0,.ptr 0 0] ⟨2,[(0,.cells (kC s)),(1,.cells (kA s))]⟩ fun e N=>e=.ret (.bool (fW s p w).1)∧N=⟨2,[(0,.cells (kC (fW s p w).2)),(1,.cells (kA (fW s p w).2))]⟩:=
 aQ.cutL (UF p s w hv)
theorem a2h (p:Pr) (s:Option aD) (w:Int) (hv:p.val.length < 1000000) {M:aG} (h2:M.get 1=some (.cells (kC s))) (h3:M.get 2=some (.cells (kA s))) (hn:3≤M.next):aQ Tryz.prog 340 [p.av,.ref [.int .i64 w],.ptr 2 0,.ptr 1 0] M fun e N=>e=.ret (.bool (fW s p w).1)∧N=(M.set 1 (.cells (kC (fW s p w).2))).set 2 (.cells (kA (fW s p w).2)):=
 aQ.frame2 1 2 (by decide) h2 h3 (by omega) (by omega) (aX aP) (aX aK) (ZC p s w hv) ⟨kP.closed (iW p),kP.closed (fX (aX aB)),kP.ptr rfl,kP.ptr rfl,trivial⟩ aK (aX aP) (aX aK)
def BP (w:Int):AV:=.fn (.func 340) [] [.ref [.int .i64 w],.ptr 2 0,.ptr 1 0]
def Z5 (t:Tr):AV:=.fn (.func 341) [] [.ref [t.av],.ptr 3 0]
theorem W1 (o:c7) (w:Int):aQ Tryz.prog 339 [.ref [.int .i64 w]] ⟨1,[(0,o)]⟩ (fun e N=>e=.ret (BP w)∧N=⟨3,[(2,.cells (kA none)),(1,.cells (kC none)),(2,.cells (kA none)),(1,.cells (kC none)),(0,o)]⟩):=by
 refine aC aF Tryz.func339 rfl (by decide) (by simp[Tryz.f339]) ?_
 repeat' (first|refine zA rfl ?_|refine aA ?_|refine aL rfl ?_)
 exact⟨rfl,_,rfl,rfl,rfl⟩
theorem a1v (t:Tr) (o:c7) (w:Int):aQ Tryz.prog 326 [t.av,.int .i64 w] ⟨1,[(0,o)]⟩ (fun e N=>e=.ret (Z5 t)∧aG.le ⟨4,[(0,o),(1,.cells (kC none)),(2,.cells (kA none)),(3,.cells [BP w])]⟩ N):=by
 refine aC aF Tryz.func326 rfl (by decide) (by simp[Tryz.f326]) ?_
 have k1:=W1 o w
 unfold Z5 Tr.av
 repeat' (first|refine zA rfl ?_|refine aA ?_|refine aL rfl ?_|refine bS rfl rfl (k1) ?_ ?_)
 rotate_left
 ·intro u N h
  cases h.1
 rintro u N ⟨e,rfl⟩
 cases e
 repeat' (first|refine zA rfl ?_|refine aA ?_|refine aL rfl ?_)
 exact⟨rfl,_,rfl,rfl,aG.le_cons rfl (aG.le_cons rfl (aG.le_cons rfl (aG.le_cons rfl (aG.le_nil rfl))))⟩
def A1 (w:Int) (st:Option aD×List Ky) (p:Pr):Option aD×List Ky:=((fW st.1 p w).2,if (fW st.1 p w).1=true then st.2 else st.2++[p.key])
def dT (w:Int) (l:List Pr):Option aD×List Ky:=l.foldl (A1 w) (none,[])
theorem N6 {w:Int} {l:List Pr} {i:Nat} {x:Pr} (h:l.take (i+1)=l.take i++[x]):dT w (l.take (i+1))=A1 w (dT w (l.take i)) x:=by
 unfold dT
 rw[h,List.foldl_append]
 rfl
def vM (w:Int) (s:Option aD) (L:List Ky) (g:Nat) (O:c7):aG:=⟨7,[(0,.cells [.sl 2 (L.map Ky.av) (.tok 4 g)]),(1,.cells (kC s)),(2,.cells (kA s)),(3,.cells [BP w]),(4,.spare g),(5,kL),(6,O)]⟩
theorem TY (l:List Ky):∀x,x∈l.map Ky.av→∀c,c∈x.cells→aN c:=by
 intro x hx c hc
 obtain⟨k,_,rfl⟩:=List.mem_map.1 hx
 have:c∈[AV.str k.path,.int .i64 k.time]:=hc
 exact aV aP aB c this
def XO (O:c7):Prop:=∃o vs t,O=.raw none o vs t∧∀i,aI 7 ((aJ t i).getD .top) ((aJ t i).getD .top)
theorem a1b {w:Int} {s:Option aD} {L:List Ky} {g:Nat} {O:c7} {N:aG} (hO:XO O) (h:∀i o,(vM w s L g O).get i=some o→N.get i=some o):gE 7 N (vM w s L g O).objs:=by
 obtain⟨o,vs,t,rfl,ht⟩:=hO
 refine⟨by decide,?_,?_⟩
 ·rw[h 0 _ rfl]
  refine⟨rfl,fun i x y hx hy=>?_⟩
  rw[hx] at hy
  cases hy
  have:x∈[AV.sl 2 (L.map Ky.av) (.tok 4 g)]:=List.mem_of_getElem? hx
  simp at this
  subst this
  exact aI.tok rfl (TY L)
 refine cG (by decide) (h 1 _ rfl) (aX aP) (cG (by decide) (h 2 _ rfl) (aX aK) ⟨by decide,?_,by decide,?_,by decide,?_,by decide,?_,trivial⟩)
 ·rw[h 3 _ rfl]
  refine⟨rfl,fun i x y hx hy=>?_⟩
  rw[hx] at hy
  cases hy
  have:x∈[BP w]:=List.mem_of_getElem? hx
  simp at this
  subst this
  refine aI.fn (by simp) ?_
  intro x hx
  simp at hx
  rcases hx with rfl|rfl|rfl
  ·exact aI.of_closed (fX (aX aB))
  ·exact aI.ptr rfl
  ·exact aI.ptr rfl
 ·rw[h 4 _ rfl]
  rfl
 ·rw[h 5 _ rfl]
  exact⟨rfl,rfl,rfl,fun i=>aI.top⟩
 ·rw[h 6 _ rfl]
  exact⟨rfl,rfl,rfl,ht⟩
def vM8 (w:Int) (s:Option aD) (L:List Ky) (g:Nat) (O:c7) (c:List AV):aG:=⟨8,(7,.cells c)::(vM w s L g O).objs⟩
theorem a1l {w:Int} {s:Option aD} {L:List Ky} {g:Nat} {O:c7} {c:List AV} {j:Nat} {o:c7} (h:(vM w s L g O).get j=some o):(vM8 w s L g O c).get j=some o:=by
 show (if j=7 then some (c7.cells c) else (vM w s L g O).get j)=some o
 by_cases e:j=7
 ·subst e
  cases h
 ·rw[if_neg e]
  exact h
theorem aI.yld {k id:Nat} (h:decide (id < k)=true):aI k (.yld id) (.yld id):=by
 have h':=of_decide_eq_true h
 intro μ F w v hr
 cases hr with
 |yld _ _ h1 h2 h3=>exact .yld id v h1 (by simp[cut,h'];exact h2) (fun b hb=>h3 b (by simpa [cut,h'] using hb))
def d2F (A:List Pr) (i:Nat):AF:=⟨[(0,.yld 6),(2,.ptr 3 0),(7,.sl 3 (A.map Pr.av) .none),(8,.int .i64 (A.length:Int)),(9,.int .i64 (i:Int))],[]⟩
theorem UJ (t:Tr) (hs:t.all.length < 10000000) (hv:∀p,p∈t.all→p.val.length < 1000000) (w:Int) (O:c7) (hO:XO O) (hY:∀(s:Option aD) (L:List Ky) (g:Nat) (k:Ky) (c:List AV),L.length < 10000000→fH Tryz.prog 6 [k.av] (vM8 w s L g O c) fun e N'=>e=.ret (.bool true)∧8≤N'.next∧∀i o,(vM w s (L++[k]) (g+1) O).get i=some o→N'.get i=some o):aQ Tryz.prog 341 [.yld 6,.ref [t.av],.ptr 3 0] (vM w none [] 0 O) (fun e N=>e=.ret (.tup [])∧∃g,(vM w (dT w t.all).1 (dT w t.all).2 g O).le N):=by
 refine aC aF Tryz.func341 rfl (by decide) (by simp[Tryz.f341]) ?_
 have ka:=sE t hs
 have lA:=bA Pr.av t.all
 unfold Tr.av at ka ⊢
 repeat' (first|refine zI rfl lA ?_|refine zA rfl ?_|refine aA ?_|refine aL rfl ?_|refine aH rfl ka ?_)
 generalize t.all=A at*
 refine bC A.length (fun i f N=>(∃g,(dT w (A.take i)).2.length≤i∧N=vM w (dT w (A.take i)).1 (dT w (A.take i)).2 g O)∧f=d2F A i) (Nat.zero_le _) ⟨⟨0,Nat.zero_le _,rfl⟩,rfl⟩ (aR.le ?_ (aG.le_refl _)) ?_
 ·unfold d2F
  repeat (refine AF.le_cons rfl ?_)
  exact AF.le_nil rfl
 rintro i f N hi ⟨⟨g,hLi,rfl⟩,rfl⟩
 by_cases h1:i < A.length
 ·have d1:decide ((i:Int) < (A.length:Int))=true:=by simp;omega
  have hx:A[i]? =some A[i]:=List.getElem?_eq_getElem h1
  have fi:=aZ (i:=i) (by omega)
  have hb:=hv _ (List.getElem_mem h1)
  have hst:=N6 (w:=w) (bM hx)
  generalize A[i]=x at hx hb hst
  generalize dT w (A.take i)=st at*
  generalize dT w (A.take (i+1))=st2 at*
  obtain⟨s,L⟩:=st
  unfold d2F vM
  repeat' (first|refine zB rfl d1 ?_|refine zA rfl ?_|refine aA ?_|refine aL rfl ?_|refine zX rfl (fB hx) ?_)
  have hk:∀(e:cH) (N:aG),True:=fun _ _=>trivial
  refine bS rfl rfl (a2h x s w hb rfl rfl (by show 3≤8;decide)) ?_ (fun u M' h=>by cases h.1)
  rintro u N ⟨e,rfl⟩
  cases e
  have fin:∀(g2:Nat) (f2:AF) (M2:aG),st2.2.length≤i+1→f2.d=[]→BV 7 f2 (d2F A (i+1)).t→7≤M2.next→(∀j o,(vM w st2.1 st2.2 g2 O).get j=some o→M2.get j=some o)→
    i < A.length∧∃f'' M'',((∃g,st2.2.length≤i+1∧M''=vM w st2.1 st2.2 g O)∧f''=d2F A (i+1))∧aR 7 f2 M2 f'' M'':=by
   intro g2 f2 M2 q1 q2 q3 q4 q5
   exact⟨h1,d2F A (i+1),vM w st2.1 st2.2 g2 O,⟨⟨g2,q1,rfl⟩,rfl⟩,aR.cut (n0:=7) (k:=7) (t:=(d2F A (i+1)).t) (l:=(vM w st2.1 st2.2 g2 O).objs) (Nat.le_refl _) q4 q2 q3 (a1b hO q5)⟩
  have hLi:L.length≤i:=hLi
  cases hkp:(fW s x w).1
  ·have e2:st2=((fW s x w).2,L++[x.key]):=by rw[hst];unfold A1;rw[hkp];rfl
   obtain⟨o,vs,t0,rfl,_⟩:=hO
   repeat' (first|refine zA rfl ?_)
   refine a2v rfl (ob:=o) (vs:=vs) (t0:=t0) rfl (fH.le (N:=vM8 w (fW s x w).2 L g (.raw none o vs t0) x.av.cells) ?_ (hY (fW s x w).2 L g x.key x.av.cells (by omega))) ?_ (by rintro u M' ⟨h,_⟩;cases h)
   ·exact aG.le_cons rfl (aG.le_cons rfl (aG.le_cons rfl (aG.le_cons rfl (aG.le_cons rfl (aG.le_cons rfl (aG.le_cons rfl (aG.le_cons rfl (aG.le_nil rfl))))))))
   rintro u M' ⟨h,hn,hget⟩
   cases h
   repeat' (first|refine zI rfl fi ?_|refine zA rfl ?_|refine aA ?_|refine aL rfl ?_)
   refine fin (g+1) _ _ (by rw[e2];simp;omega) rfl ⟨?_,?_,?_,?_,?_,trivial⟩ (by omega) (by rw[e2];exact hget)
   ·exact aI.yld rfl
   ·exact aI.ptr rfl
   ·exact aI.of_closed (bW A)
   ·exact aI.of_closed aB
   ·exact aI.of_closed aB
  ·have e2:st2=((fW s x w).2,L):=by rw[hst];unfold A1;rw[hkp];rfl
   repeat' (first|refine zI rfl fi ?_|refine zA rfl ?_|refine aA ?_|refine aL rfl ?_)
   refine fin g _ _ (by rw[e2];show L.length≤_;omega) rfl ⟨?_,?_,?_,?_,?_,trivial⟩ (by show 7≤8;decide) ?_
   ·exact aI.yld rfl
   ·exact aI.ptr rfl
   ·exact aI.of_closed (bW A)
   ·exact aI.of_closed aB
   ·exact aI.of_closed aB
   ·rw[e2]
    have key:∀M2:aG,(vM8 w (fW s x w).2 L g O x.av.cells).le M2→(∀j o,(vM w (fW s x w).2 L g O).get j=some o→M2.get j=some o):=fun M2 h j o hj=>h.2 j o (a1l hj)
    refine key _ ?_
    exact aG.le_cons rfl (aG.le_cons rfl (aG.le_cons rfl (aG.le_cons rfl (aG.le_cons rfl (aG.le_cons rfl (aG.le_cons rfl (aG.le_cons rfl (aG.le_nil rfl))))))))
 ·have d1:decide ((i:Int) < (A.length:Int))=false:=by simp;omega
  obtain rfl:i=A.length:=by omega
  rw[List.take_length]
  unfold d2F vM
  repeat' (first|refine zB rfl d1 ?_|refine aA ?_|refine aL rfl ?_)
  exact⟨rfl,_,rfl,rfl,g,aG.le_refl _⟩
def ofO (l:List Pr) (w:Int):List Ky×Int:=if dZ l=true∧¬w < 0 then ((dT w l).2,0) else ([],1)
def ofA (x:List Ky×Int):AV:=.tup [.sl 2 (x.1.map Ky.av) .none,.int .i64 x.2]
theorem qC (l:List Ky):aN (.sl 2 (l.map Ky.av) .none):=g9 (fun k=>iU k) (fun k c hc=>by
 have:c∈[AV.str k.path,.int .i64 k.time]:=hc
 exact aV aP aB c this)
theorem KD (x:List Ky×Int):aN (ofA x):=aS (aV (qC _) aB)
def T5 (t:Tr):List (Nat×AV):=[(6,.ptr 0 0),(17,Z5 t)]
theorem a5s (t:Tr) (o:Obj) (vs:Array Value):XO (.raw none o vs (T5 t)):=by
 refine⟨o,vs,_,rfl,fun i=>?_⟩
 unfold T5
 simp only[aJ]
 split
 ·exact aI.ptr rfl
 ·split
  ·refine aI.fn (by simp) ?_
   intro x hx
   simp at hx
   rcases hx with rfl|rfl
   ·exact aI.of_closed (fX (aX (bG t)))
   ·exact aI.ptr rfl
  ·exact aI.top
def vM5 (w:Int):aG:=⟨5,[(0,.cells [.sl 2 [] (.tok 4 0)]),(1,.cells (kC none)),(2,.cells (kA none)),(3,.cells [BP w]),(4,.spare 0)]⟩
theorem SN {n:Nat} {ps:Array Tmp} {assign body:Code} {Q:AX→AF→aG→Prop} (t:Tr) (hs:t.all.length < 10000000) (hv:∀p,p∈t.all→p.val.length < 1000000) (w:Int) (hps:ps.toList.length=1) (hpn:(ps.toList.all fun p=>decide (p < n))=true)
  (hround:∀(O O1:c7) (s:Option aD) (L:List Ky) (g:Nat) (k:Ky) (c:List AV) (l:Nat),L.length < 10000000→
   W (some l) Tryz.prog n assign (sK (fun f1 M1=>M1.get 6=some O∧W (some l) Tryz.prog n body (fun e _ N'=>e=.normal∧N'.get 6=some O1∧8≤(N'.set 6 O).next∧∀i o,(vM w s (L++[k]) (g+1) O).get i=some o→(N'.set 6 O).get i=some o) f1 (M1.set 6 O1)) (fun _ _ _=>False)) ⟨J3 ps.toList [k.av] (T5 t),[]⟩ (vM8 w s L g O c))
  (hdone:∀g N O,(vM w (dT w t.all).1 (dT w t.all).2 g O).le N→∃N',N'.le N∧N'.get 6=none∧Q .normal ⟨T5 t,[mR 5]⟩ N'):
  W none Tryz.prog n (.rangeFunc (.tmp 17) ps assign body) Q ⟨T5 t,[]⟩ (vM5 w):=by
 refine DY (gf:=341) (lb:=[.ref [t.av],.ptr 3 0]) rfl fun fn tmps D hn=>?_
 refine (aQ.le (N:=vM w none [] 0 (.raw none (.loop (eO fn tmps ps assign body D .ready none)) tmps (T5 t))) ?_ (UJ t hs hv w _ (a5s t _ _) ?_)).mono ?_
 ·exact aG.le_cons rfl (aG.le_cons rfl (aG.le_cons rfl (aG.le_cons rfl (aG.le_cons rfl (aG.le_cons rfl (aG.le_cons rfl (aG.le_nil rfl)))))))
 ·intro s L g k c hL
  refine qT rfl hn hps hpn fun l=>?_
  refine (hround _ (.raw none (.loop (eO fn tmps ps assign body D .busy none)) tmps (T5 t)) s L g k c l hL).mono ?_
  rintro x1 f1 M1 h1
  cases x1 with
  |normal=>
   refine⟨h1.1,h1.2.mono ?_⟩
   rintro x2 f2 M2 ⟨rfl,h3,h4⟩
   exact⟨h3,rfl,h4⟩
  |exit id=>exact h1.elim
  |ret=>exact h1.elim
  |panic v=>exact h1.elim
 ·rintro e N ⟨rfl,g,hle⟩
  obtain⟨N',h1,h2,h3⟩:=hdone _ N _ hle
  exact⟨.ready,none,N',by simp,hle.2 6 _ rfl,h1,h2,h3⟩
theorem a9p (t:Tr) (hs:t.all.length < 10000000) (hv:cP t.all) (w:Int):aO Tryz.prog 313 [t.av,.int .i64 w] (ofA (ofO t.all w)):=by
 refine aU (aV (bG t) aB) (KD _) ?_
 refine n9 aF Tryz.func313 rfl (by decide) (by simp[Tryz.f313]) ?_
 have kis:=k8 t hs hv
 have kd:=a1v t (.cells [.sl 0 [] .full]) w
 unfold ofO
 cases h:dZ t.all
 ·rw[h] at kis
  rw[if_neg (by simp)]
  unfold Tr.av at kis ⊢
  repeat' (first|refine zA rfl ?_|refine aA ?_|refine aL rfl ?_|refine aH rfl kis ?_)
  exact⟨_,rfl,_,rfl,aI.tup2 aI.nil (aI.of_closed aB)⟩
 ·rw[h] at kis
  by_cases hw:w < 0
  ·have d1:decide (w < 0)=true:=by simp[hw]
   rw[if_neg (by simp[hw])]
   unfold Tr.av at kis ⊢
   repeat' (first|refine zB rfl d1 ?_|refine zA rfl ?_|refine aA ?_|refine aL rfl ?_|refine aH rfl kis ?_)
   exact⟨_,rfl,_,rfl,aI.tup2 aI.nil (aI.of_closed aB)⟩
  ·have d1:decide (w < 0)=false:=by simp[hw]
   rw[if_pos ⟨rfl,hw⟩]
   unfold Tr.av at kis kd ⊢
   repeat' (first|refine zB rfl d1 ?_|refine zA rfl ?_|refine aA ?_|refine aL rfl ?_|refine aH rfl kis ?_|refine bS rfl rfl (kd) ?_ ?_)
   rotate_left
   ·intro u N h
    cases h.1
   rintro u N ⟨e,hle⟩
   cases e
   repeat' (first|refine aA ?_|refine aL rfl ?_)
   refine W.le (g:=⟨T5 t,[]⟩) (N:=⟨4,[(0,.cells [.sl 0 [] .full]),(1,.cells (kC none)),(2,.cells (kA none)),(3,.cells [BP w])]⟩) ?_ hle ?_
   ·unfold T5
    repeat (refine AF.le_cons rfl ?_)
    exact AF.le_nil rfl
   refine jR ((aR.tokM 0 0 rfl rfl (sz':=2) (.inr rfl)).trans (aR.le (g:=⟨T5 t,[]⟩) (N:=vM5 w) ⟨rfl,fun _=>Sub.refl⟩ ?_)) ?_
   ·exact aG.le_cons rfl (aG.le_cons rfl (aG.le_cons rfl (aG.le_cons rfl (aG.le_cons rfl (aG.le_nil rfl)))))
   refine SN t hs (fun p hp=>(hv p hp).2) w rfl (by decide) ?_ ?_
   ·intro O O1 s L g k c l hL
    have lk:=bA Ky.av L
    unfold vM8 vM T5
    repeat' (first|refine zA rfl ?_|refine aA ?_|refine aL rfl ?_)
    refine⟨rfl,?_⟩
    repeat' (first|refine zA rfl ?_|refine aA ?_|refine aL rfl ?_|refine zR rfl ?_|refine zP rfl rfl ?_)
    have e:AV.sl 2 ((L++[k]).map Ky.av) (.tok 4 (g+1))=.sl 2 (L.map Ky.av++[k.av]) (.tok 4 (g+1)):=by simp
    refine⟨rfl,rfl,by show 8≤9;decide,?_⟩
    have key:∀M2:aG,aG.le ⟨9,(vM w s (L++[k]) (g+1) O).objs⟩ M2→(∀j o,(vM w s (L++[k]) (g+1) O).get j=some o→M2.get j=some o):=fun M2 h j o hj=>h.2 j o hj
    refine key _ ?_
    unfold vM
    rw[e]
    exact aG.le_cons rfl (aG.le_cons rfl (aG.le_cons rfl (aG.le_cons rfl (aG.le_cons rfl (aG.le_cons rfl (aG.le_cons rfl (aG.le_nil rfl)))))))
   ·intro g N O hle2
    refine⟨⟨7,[(0,.cells [.sl 2 ((dT w t.all).2.map Ky.av) (.tok 4 g)]),(5,kL)]⟩,aG.le_trans (aG.le_cons (i:=0) rfl (aG.le_cons (i:=5) rfl (aG.le_nil rfl))) hle2,rfl,?_⟩
    unfold T5
    repeat' (first|refine zA rfl ?_|refine aA ?_|refine aL rfl ?_)
    refine uP (N:=⟨_,[]⟩) rfl (aG.le_nil rfl) rfl ⟨_,rfl,_,rfl,aI.tup2 (aI.untag (qC _)) (aI.of_closed aB)⟩
def a4o (l:List Pr) (w:Int) (x:Pr):Prop:=∃y,y∈l∧y.key.path=x.key.path∧x.key.time < y.key.time∧y.key.time≤w
def y8 (x:Pr):Bool:=(bY x.val).2.1
def UU (l:List Pr) (w:Int) (x:Pr):Prop:=x.key.time≤w∧(a4o l w x∨y8 x=true)
noncomputable def pU (l:List Pr) (w:Int) (x:Pr):Bool:=@decide (UU l w x) (Classical.propDecidable _)
theorem tO {l:List Pr} {w:Int} {x:Pr}:pU l w x=true↔UU l w x:=by
 unfold pU
 exact @decide_eq_true_iff _ (Classical.propDecidable _)
def a18 (a:List Pr) (w:Int) (s:Option aD):Prop:=∀p,(∀y,y∈a→y.key.path=p∨bl y.key.path p=true)→(s=some p↔∃y,y∈a∧y.key.path=p∧y.key.time≤w)
theorem X4 (w:Int) (a b:List Pr):dT w (a++b)=b.foldl (A1 w) (dT w a):=by
 unfold dT
 rw[List.foldl_append]
theorem PM {a b:List Pr} {x y:Pr} (hr:bT (a++b)) (hx:x∈a) (hy:y∈b):x.key.path=y.key.path∨bl x.key.path y.key.path=true:=by
 have:=(List.pairwise_append.1 hr).2.2 x hx y hy
 rcases (gS _ _).1 this with h|⟨h,_⟩
 ·exact .inr h
 ·exact .inl h
theorem Q9 {a:List Pr} {w:Int} {s:Option aD} {x:Pr} (hr:bT (a++[x])) (h:a18 a w s):a18 (a++[x]) w (fW s x w).2:=by
 intro p hp
 unfold fW
 have hxp:=hp x (by simp)
 by_cases hx:w < x.key.time
 ·rw[if_pos hx]
  rw[h p (fun y hy=>hp y (by simp[hy]))]
  constructor
  ·rintro⟨y,hy,h1,h2⟩
   exact⟨y,by simp[hy],h1,h2⟩
  ·rintro⟨y,hy,h1,h2⟩
   rcases List.mem_append.1 hy with hy|hy
   ·exact⟨y,hy,h1,h2⟩
   ·simp at hy
    subst hy
    omega
 ·rw[if_neg hx]
  constructor
  ·intro e
   have e:x.key.path=p:=Option.some.inj e
   exact⟨x,by simp,e,by omega⟩
  ·rintro⟨y,hy,h1,h2⟩
   show some x.key.path=some p
   congr 1
   rcases List.mem_append.1 hy with hy|hy
   ·rcases PM hr hy (y:=x) (by simp) with h3|h3
    ·rw[←h3,h1]
    ·rw[h1] at h3
     rcases hxp with h4|h4
     ·exact h4
     ·have:=y3 h3
      rw[h4] at this
      cases this
   ·simp at hy
    rw[←hy]
    exact h1
theorem Q3 (w:Int):∀(b a:List Pr),bT (a++b)→a18 a w (dT w a).1→(dT w a).2=(a.filter (pU (a++b) w)).map (·.key)→a18 (a++b) w (dT w (a++b)).1∧(dT w (a++b)).2=((a++b).filter (pU (a++b) w)).map (·.key)
 |[],a,hr,hs,he=>by
  rw[List.append_nil] at*
  exact⟨hs,he⟩
 |x::b,a,hr,hs,he=>by
  have e:a++x::b=(a++[x])++b:=by simp
  have hr1:bT (a++[x]):=by
   rw[e] at hr
   exact (List.pairwise_append.1 hr).1
  have h1:dT w (a++[x])=A1 w (dT w a) x:=by rw[X4];rfl
  have hs1:=Q9 hr1 hs
  have hk:(fW (dT w a).1 x w).1=!pU (a++x::b) w x:=by
   rw[Bool.eq_iff_iff]
   simp only[Bool.not_eq_true',←Bool.not_eq_true,tO]
   unfold fW
   by_cases hx:w < x.key.time
   ·rw[if_pos hx]
    simp only[true_iff]
    rintro⟨h2,_⟩
    omega
   ·rw[if_neg hx]
    have hq:=hs x.key.path (fun y hy=>PM hr1 hy (by simp))
    simp only[Bool.and_eq_true,Bool.not_eq_true',decide_eq_false_iff_not,hq]
    have hn:a4o (a++x::b) w x↔∃y,y∈a∧y.key.path=x.key.path∧y.key.time≤w:=by
     constructor
     ·rintro⟨y,hy,h2,h3,h4⟩
      rcases List.mem_append.1 hy with hy|hy
      ·exact⟨y,hy,h2,h4⟩
      ·exfalso
       rcases List.mem_cons.1 hy with rfl|hy
       ·omega
       ·have:=(List.pairwise_cons.1 (List.pairwise_append.1 hr).2.1).1 y hy
        rcases (gS _ _).1 this with h5|⟨_,h5⟩
        ·rw[h2,dW] at h5
         cases h5
        ·omega
     ·rintro⟨y,hy,h2,h4⟩
      refine⟨y,by simp[hy],h2,?_,h4⟩
      have:=(List.pairwise_append.1 hr1).2.2 y hy x (by simp)
      rcases (gS _ _).1 this with h5|⟨_,h5⟩
      ·rw[h2,dW] at h5
       cases h5
      ·exact h5
    unfold UU
    rw[hn]
    unfold y8
    constructor
    ·rintro⟨h2,h3⟩ ⟨_,h4|h4⟩
     ·exact h2 h4
     ·rw[h3] at h4
      cases h4
    ·intro h2
     refine⟨fun h3=>h2 ⟨by omega,.inl h3⟩,?_⟩
     cases hg:(bY x.val).2.1
     ·rfl
     ·exact absurd ⟨by omega,.inr hg⟩ h2
  rw[e] at hr ⊢
  refine Q3 w b (a++[x]) hr (by rw[h1];exact hs1) ?_
  rw[h1,←e]
  unfold A1
  rw[hk,List.filter_append,List.map_append,←he]
  cases hd:pU (a++x::b) w x
  ·simp[hd]
  ·simp[hd]
theorem BO {l:List Pr} (hr:bT l) (w:Int):(dT w l).2=(l.filter (pU l w)).map (·.key):=
 (Q3 w l [] hr (fun p _=>by simp[dT]) rfl).2
noncomputable def mZ (l:List Pr) (w:Int):List Pr:=l.filter fun x=>!pU l w x
theorem G1 {l:List Pr} (hr:bT l) (k:Ky):dA l k=l.filter fun x=>!decide (x.key=k):=by
 induction l with
 |nil=>rfl
 |cons q r ih=>
  obtain⟨h1,h2⟩:=List.pairwise_cons.1 hr
  simp only[dA]
  by_cases hq:bI q.key k=true
  ·rw[if_pos hq,ih h2,List.filter_cons,if_pos]
   have:q.key≠k:=by
    rintro rfl
    rw[fI] at hq
    cases hq
   simp[this]
  ·rw[if_neg hq]
   have hrest:r.filter (fun x=>!decide (x.key=k))=r:=by
    refine List.filter_eq_self.2 fun x hx=>?_
    have:x.key≠k:=by
     rintro rfl
     exact hq (h1 x hx)
    simp[this]
   by_cases he:q.key=k
   ·rw[if_pos he,List.filter_cons,if_neg (by simp[he]),hrest]
   ·rw[if_neg he,List.filter_cons,if_pos (by simp[he]),hrest]
theorem tF:∀(ks:List Ky) {l:List Pr},bT l→ks.foldl dA l=l.filter fun x=>!decide (x.key∈ks)
 |[],l,_=>by
  show l=_
  exact (List.filter_eq_self.2 (by simp)).symm
 |k::ks,l,hr=>by
  rw[List.foldl_cons,tF ks (y4 hr),G1 hr,List.filter_filter]
  congr 1
  funext x
  by_cases h1:x.key=k<;>by_cases h2:x.key∈ks<;>simp[h1,h2]
  all_goals (first|(subst h1;simp[h2])|simp_all)
theorem SJ {l:List Pr} (hr:bT l) (w:Int):(dT w l).2.foldl dA l=mZ l w:=by
 rw[tF _ hr,BO hr]
 unfold mZ
 refine List.filter_congr fun x hx=>?_
 congr 1
 rw[Bool.eq_iff_iff,decide_eq_true_iff]
 constructor
 ·intro h
  obtain⟨y,hy,he⟩:=List.mem_map.1 h
  rw[List.mem_filter] at hy
  have:=z8 hr hy.1 hx he
  rw[←this]
  exact hy.2
 ·intro h
  exact List.mem_map.2 ⟨x,List.mem_filter.2 ⟨hx,h⟩,rfl⟩
theorem kR {l:List Pr} {w:Int} {x:Pr}:x∈mZ l w↔x∈l∧¬UU l w x:=by
 unfold mZ
 rw[List.mem_filter]
 simp only[Bool.not_eq_true',←Bool.not_eq_true,tO]
theorem O6 (l:List Pr) (w:Int):(mZ l w).Sublist l:=List.filter_sublist
theorem IM {l:List Pr} (hr:bT l) (w:Int):bT (mZ l w):=hr.sublist (O6 l w)
theorem LP {α:Type} (q:α→Bool) (l:List α):(l.filter fun x=>!q x).length+(l.filter q).length=l.length:=by
 induction l with
 |nil=>rfl
 |cons x r ih=>
  rw[List.filter_cons,List.filter_cons]
  cases q x
  ·simp
   omega
  ·simp
   omega
theorem a0b {l:List Pr} (hr:bT l) (w:Int):(mZ l w).length+(dT w l).2.length=l.length:=by
 rw[BO hr,List.length_map]
 exact LP _ l
theorem XN {l:List Pr} (h:dZ l=true) (w:Int):dZ (mZ l w)=true:=OM fun p hp=>yO h (kR.1 hp).1
theorem XA {l:List Pr} (h:cP l) (w:Int):cP (mZ l w):=fun p hp=>h p (kR.1 hp).1
noncomputable def jJ (t:Tr) (ks:List Ky):Tr:=ks.foldl vQ t
theorem uS:∀(ks:List Ky) (t:Tr),t.all.length < 10000000→(jJ t ks).all=ks.foldl dA t.all∧(jJ t ks).all.length≤t.all.length
 |[],t,h=>⟨rfl,Nat.le_refl _⟩
 |k::r,t,h=>by
  have h1:(vQ t k).all=dA t.all k:=QB h
  have h2:=(uE t.all k).length_le
  obtain⟨h3,h4⟩:=uS r (vQ t k) (by rw[h1];omega)
  unfold jJ at h3 h4 ⊢
  rw[h1] at h3 h4
  exact⟨h3,by simp only[List.foldl_cons];omega⟩
theorem K1 {t:Tr} {l:List Ky} {i:Nat} {x:Ky} (ht:l.take (i+1)=l.take i++[x]):jJ t (l.take (i+1))=vQ (jJ t (l.take i)) x:=by
 unfold jJ
 rw[ht,List.foldl_append]
 rfl
noncomputable def WI (t:Tr) (w:Int):Tr:=jJ t (dT w t.all).2
theorem WU {t:Tr} (h:t.all.length < 10000000) (w:Int):(WI t w).all=mZ t.all w:=by
 unfold WI
 rw[(uS _ t h).1]
 exact SJ (l:=t.all) t.rise w
def vOk (l:List Pr) (w:Int):Bool:=dZ l&&!decide (w < 0)
theorem a4f {l:List Pr} {w:Int} (h:vOk l w=true):ofO l w=((dT w l).2,0):=by
 unfold vOk at h
 simp at h
 unfold ofO
 rw[if_pos ⟨h.1,by omega⟩]
theorem a60 {l:List Pr} {w:Int} (h:vOk l w=false):ofO l w=([],1):=by
 unfold vOk at h
 unfold ofO
 rw[if_neg]
 rintro⟨h1,h2⟩
 rw[h1] at h
 simp at h
 omega
noncomputable def YL (t:Tr) (w:Int):AV:=if vOk t.all w=true then .tup [(WI t w).av,.int .i64 ((dT w t.all).2.length:Int),.int .i64 0] else .tup [.nilptr,.int .i64 0,.int .i64 1]
theorem IE (t:Tr) (w:Int):aN (YL t w):=by
 unfold YL
 split
 ·exact aS (bK (bG _) aB aB)
 ·exact aS (bK dO aB aB)
noncomputable def WV (t:Tr) (w:Int) (l:List Ky) (i:Nat):AF:=⟨[(0,t.av),(7,.sl 2 (l.map Ky.av) .none),(20,.sl 2 (l.map Ky.av) .none),(21,.int .i64 (l.length:Int)),(22,.int .i64 (i:Int))],[]⟩
theorem X2 (w:Int) (l:List Pr) (hr:bT l):(dT w l).2.length≤l.length:=by
 have:=a0b hr w
 omega
theorem a6b (t:Tr) (hs:t.all.length < 1000000) (hv:cP t.all) (w:Int):aO Tryz.prog 277 [t.av,.int .i64 w] (YL t w):=by
 refine aU (aV (bG t) aB) (IE _ _) ?_
 refine aC aF Tryz.func277 rfl (by decide) (by simp[Tryz.f277]) ?_
 have ko:=a9p t (by omega) hv w
 unfold YL
 cases h:vOk t.all w
 ·rw[a60 h] at ko
  rw[if_neg (by simp)]
  unfold ofA at ko
  unfold Tr.av at ko ⊢
  repeat' (first|refine zA rfl ?_|refine aA ?_|refine aL rfl ?_|refine aH rfl ko ?_)
  exact⟨rfl,_,rfl,_,rfl,aI.of_closed (aS (bK dO aB aB))⟩
 ·rw[a4f h] at ko
  rw[if_pos rfl]
  have hl:=X2 w t.all t.rise
  unfold WI
  generalize (dT w t.all).2=l at ko hl ⊢
  have la:=bA Ky.av l
  have hR:=bG (jJ t l)
  have hcl:=qC l
  unfold ofA at ko
  unfold Tr.av at ko ⊢
  repeat' (first|refine zI rfl la ?_|refine zA rfl ?_|refine aA ?_|refine aL rfl ?_|refine aH rfl ko ?_)
  refine bC l.length (fun i f N=>N=⟨0,[]⟩∧f=WV (jJ t (l.take i)) w l i) (Nat.zero_le _) ⟨rfl,rfl⟩ (aR.le ?_ (aG.le_nil rfl)) ?_
  ·unfold WV Tr.av
   repeat (refine AF.le_cons rfl ?_)
   exact AF.le_nil rfl
  rintro i f N hi ⟨rfl,rfl⟩
  unfold WV
  by_cases g1:i < l.length
  ·have d1:decide ((i:Int) < (l.length:Int))=true:=by simp;omega
   have hx:l[i]? =some l[i]:=List.getElem?_eq_getElem g1
   have fi:=aZ (i:=i) (by omega)
   have ht:=bM hx
   generalize l[i]=x at hx ht
   have hl2:=(uS (l.take i) t (by omega)).2
   have kp:=VS (t:=jJ t (l.take i)) (k:=x) (by omega)
   rw[←K1 ht] at kp
   generalize jJ t (l.take i)=u at kp
   generalize hU:jJ t (l.take (i+1))=U at kp
   have hUc:=bG U
   unfold Tr.av at kp ⊢
   repeat' (first|refine zB rfl d1 ?_|refine zI rfl fi ?_|refine zA rfl ?_|refine aA ?_|refine aL rfl ?_|refine aH rfl kp ?_|refine zX rfl (fB hx) ?_)
   refine⟨g1,WV U w l (i+1),⟨0,[]⟩,⟨rfl,by rw[←hU];rfl⟩,aR.cut (k:=0) (t:=(WV U w l (i+1)).t) (l:=[]) (Nat.le_refl _) (Nat.zero_le _) rfl ⟨?_,?_,?_,?_,?_,trivial⟩ trivial⟩
   ·exact aI.of_closed hUc
   ·exact aI.of_closed hcl
   ·exact aI.of_closed hcl
   ·exact aI.of_closed aB
   ·exact aI.of_closed aB
  ·have d1:decide ((i:Int) < (l.length:Int))=false:=by simp;omega
   obtain rfl:i=l.length:=by omega
   rw[List.take_length]
   unfold Tr.av at hR ⊢
   repeat' (first|refine zB rfl d1 ?_|refine zI rfl la ?_|refine zA rfl ?_|refine aA ?_|refine aL rfl ?_)
   exact⟨rfl,_,rfl,_,rfl,aI.of_closed (aS (bK hR aB aB))⟩
noncomputable def dk (l:List Pr) (w:Int) (i:Nat):List Ky:=((l.take i).filter (pU l w)).map (·.key)
noncomputable def rl (l:List Pr) (w:Int) (i:Nat):List Pr:=(l.take i).filter fun x=>!pU l w x
noncomputable def B5 (s:Sg) (o:Oo):Sg×(Int×Int):=if 1000000000≤s.last∨200 < s.pairs.length+o.ch.length then (s,(2,0)) else ({s with pairs:=oG s.pairs (s.last+1) o.ch,last:=s.last+1},(0,s.last+1))
noncomputable def u6 (s:Sg) (o:Oo):Sg×(Int×Int):=({s with pairs:=mZ s.pairs (fU s.mark o.at_ s.last s.pins),mark:=fU s.mark o.at_ s.last s.pins},(0,fU s.mark o.at_ s.last s.pins))
def AR:Sg:=⟨0,0,[],[],[]⟩
def apA (x:(Sg×(Int×Int))×Int):AV:=.tup [x.1.1.av,gG x.1.2,.int .i64 x.2]
theorem kH (x:(Sg×(Int×Int))×Int):aN (apA x):=aS (bK (dK _) (bU (aV aB aB)) aB)
theorem OI {k:Nat} (n:Int):aI k (.tup [.agg [.int .i64 0,.int .i64 0,.sl 0 [] .full,.sl 0 [] .full,.sl 0 [] .full],.agg [.int .i64 0,.int .i64 0],.int .i64 n]) (apA ((AR,(0,0)),n)):=
 aI.tup3 (aI.aggL ⟨aI.of_closed aB,aI.of_closed aB,aI.nil,aI.nil,aI.nil,trivial⟩) (aI.of_closed (bU (aV aB aB))) (aI.of_closed aB)
def pM (o:Oo) (z:Sg×(Int×Int)):Sn:=⟨o.client,o.seq,z.2.1,z.2.2⟩
def T6 (s:Sg) (o:Oo) (z:Sg×(Int×Int)):(Sg×(Int×Int))×Int:=
 if (cJ s&&iB o)=true then
  (if (kM s.seen o.client o.seq).2=1 then ((s,(kM s.seen o.client o.seq).1),0)
  else if (kM s.seen o.client o.seq).2=2 then ((s,(180,0)),0)
  else if (pI s.seen (pM o z)).2=0 then (({z.1 with seen:=(pI s.seen (pM o z)).1},z.2),0) else ((s,((pI s.seen (pM o z)).2,0)),0))
 else ((AR,(0,0)),1)
end Go.Proofs.YteliblifgdofgaaGreatDoor
