/- Parts of the proof, one behind the other. No further condition. -/
import Derived.Test.YthnhbmlefiafaaaGreatDoorK22
set_option linter.unusedVariables false
set_option linter.unusedSimpArgs false
set_option maxRecDepth 100000
set_option maxHeartbeats 8000000
namespace Go.Proofs.YthnhbmlefiafaaaGreatDoor
open Go.Ab
theorem SV (l:List Pr) (k:Ky):dJ l k=l.take (dF l k)++(if lC l k=true then l.drop (dF l k+1) else l.drop (dF l k)):=by
 induction l with
 |nil=>rfl
 |cons q r ih=>
  cases h:bG q.key k
  ·have e1:dF (q::r) k=0:=by unfold dF;rw[List.takeWhile_cons,if_neg (by simp[h])];rfl
   have e2:lC (q::r) k=decide (q.key=k):=by unfold lC;rw[e1];rfl
   rw[dJ,if_neg (by simp[h]),e1,e2]
   by_cases he:q.key=k
   ·simp[he]
   ·simp[he]
  ·have e1:dF (q::r) k=dF r k+1:=by unfold dF;rw[List.takeWhile_cons,if_pos h];rfl
   have e2:lC (q::r) k=lC r k:=by unfold lC;rw[e1];rfl
   rw[dJ,if_pos h,e1,e2,ih]
   simp
theorem WF (l:List Pr) (hl:l.length < 100000) (k:Ky):aN Tryz.prog 280 [.sl 3 (l.map Pr.av) .none,k.av] (.sl 3 ((dJ l k).map Pr.av) .none):=by
 intro M
 refine aC aF Tryz.func280 rfl (by decide) (by simp[Tryz.f280]) ?_
 have kf:=sO l .none (by omega) k
 have hle:=mO l k
 rw[SV]
 have hh:=@G6 l k
 generalize dF l k=n at kf hle hh
 cases hp:lC l k
 ·rw[hp] at kf
  rw[if_neg (by simp),List.take_append_drop]
  have kj:=l8 [(l,false)] true (by simp) (by simp;omega)
  have e:dN [(l,false)]=l:=by simp[dN]
  rw[e] at kj
  repeat' (first|refine zA rfl ?_|refine aA ?_|refine aJ rfl ?_|refine aD rfl kf ?_|refine aD rfl kj ?_|refine zR rfl ?_)
  exact⟨rfl,_,rfl,rfl,rfl⟩
 ·have hlt:=hh hp
  rw[hp] at kf
  rw[if_pos rfl]
  have kj:=l8 [(l.take n,false),(l.drop (n+1),false)] true (by simp) (by simp;omega)
  have e:dN [(l.take n,false),(l.drop (n+1),false)]=l.take n++l.drop (n+1):=by simp[dN]
  rw[e] at kj
  have w1:=aQ (i:=n) (by omega)
  repeat' (first|refine zA rfl ?_|refine aA ?_|refine aJ rfl ?_|refine aD rfl kf ?_|refine aO mixed [0,1,2,3,4,5,6,7,8,9] [.P,.P,.P,.P,.P,.P,.P,.P,.P,.P] rfl rfl (by kernel_rfl) ?_)
  refine wN aF rfl rfl rfl rfl (n:=n) rfl rfl rfl rfl rfl rfl hle ?_
  repeat' (first|refine zI rfl w1 ?_|refine zA rfl ?_)
  refine gM aF rfl rfl rfl rfl (lo:=n+1) rfl rfl rfl rfl rfl rfl (by omega) ?_
  repeat' (first|refine zA rfl ?_|refine aA ?_|refine aJ rfl ?_|refine aD rfl kj ?_|refine zR rfl ?_)
  exact⟨rfl,_,rfl,rfl,rfl⟩
theorem I0 (l:List Pr) (hl:l.length < 100000) (k:Ky):aN Tryz.prog 276 [.sl 3 (l.map Pr.av) .none,k.av] (dW 0 (dJ l k:Vt 0)):=by
 intro M
 refine aC aF Tryz.func276 rfl (by decide) (by simp[Tryz.f276]) ?_
 have kd:=WF l hl k
 repeat' (first|refine zA rfl ?_|refine aA ?_|refine aJ rfl ?_|refine aD rfl kd ?_)
 exact⟨rfl,_,rfl,rfl,rfl⟩
def XL:Nat→FuncId
 |0=>276
 |_+1=>289
theorem a4b (h:Nat):fG Tryz.prog (GJ h) "sexton/tree.drop" =some (XL h):=by
 cases h
 ·show fG Tryz.prog 175 "sexton/tree.drop" =some 276
  kernel_rfl
 ·show fG Tryz.prog 223 "sexton/tree.drop" =some 289
  kernel_rfl
theorem KE (l:List Pr):aN Tryz.prog 304 [.sl 3 (l.map Pr.av) .none] (.int .i64 (l.length:Int)):=by
 intro M
 refine aC aF Tryz.func304 rfl (by decide) (by simp[Tryz.f304]) ?_
 have la:=aU Pr.av l
 repeat' (first|refine zI rfl la ?_|refine zA rfl ?_|refine aA ?_|refine aJ rfl ?_)
 exact⟨rfl,_,rfl,rfl,rfl⟩
theorem HP (h:Nat) (l:List (Vt h)) (n:Int):aN Tryz.prog 293 [.agg [.sl 1 (l.map (dW h)) .none,.int .i64 n]] (.int .i64 (l.length:Int)):=by
 intro M
 refine aC aF Tryz.func293 rfl (by decide) (by simp[Tryz.f293]) ?_
 have la:=aU (dW h) l
 repeat' (first|refine zI rfl la ?_|refine zA rfl ?_|refine aA ?_|refine aJ rfl ?_)
 exact⟨rfl,_,rfl,rfl,rfl⟩
def a3l:Nat→FuncId
 |0=>304
 |_+1=>293
theorem a7y (h:Nat):fG Tryz.prog (GJ h) "sexton/tree.size" =some (a3l h):=by
 cases h
 ·show fG Tryz.prog 175 "sexton/tree.size" =some 304
  kernel_rfl
 ·show fG Tryz.prog 223 "sexton/tree.size" =some 293
  kernel_rfl
theorem a0l (h:Nat) (v:Vt h):aN Tryz.prog (a3l h) [uC h v] (.int .i64 (fL h v:Int)):=by
 cases h with
 |zero=>exact KE v.row
 |succ h=>exact HP h v.kids _
theorem V4 (a b:List Pr) (ha:a.length < 1000) (hb:b.length < 1000) (h0:0 < a.length+b.length):aN Tryz.prog 296 [dW 0 (a:Vt 0),dW 0 (b:Vt 0)] (.sl 1 ((eQ 0 (a:Vt 0) (b:Vt 0)).map (dW 0)) .none):=by
 refine aT (aZ (dU 0 _) (dU 0 _)) (cZ 0 _) ?_
 refine aC aF Tryz.func296 rfl (by decide) (by simp[Tryz.f296]) ?_
 have kc:=MQ [(a,false),(b,false)] true (by simp) (by simp[dN];omega) (by simp[dN];omega)
 have e:dN [(a,false),(b,false)]=a++b:=by simp[dN]
 rw[e] at kc
 have kl:=BX (a++b) (by simp;omega)
 repeat' (first|refine zA rfl ?_|refine aA ?_|refine aJ rfl ?_)
 refine cM aF rfl rfl rfl rfl rfl ?_
 repeat' (first|refine zA rfl ?_|refine aA ?_|refine aJ rfl ?_)
 refine cM aF rfl rfl rfl rfl rfl ?_
 repeat' (first|refine zA rfl ?_|refine aA ?_|refine aJ rfl ?_|refine aD rfl kc ?_|refine aD rfl kl ?_|refine zR rfl ?_)
 exact⟨rfl,_,rfl,_,rfl,aH.of_closed (cZ 0 _)⟩
theorem Z1 (h:Nat) (a b:Vt (h+1)) (ha:a.kids.length < 1000) (hb:b.kids.length < 1000) (h0:0 < a.kids.length+b.kids.length) (hs:(bF h (a.kids++b.kids)).length < 1000000000):aN Tryz.prog 296 [dW (h+1) a,dW (h+1) b] (.sl 1 ((eQ (h+1) a b).map (dW (h+1))) .none):=by
 refine aT (aZ (dU _ _) (dU _ _)) (cZ (h+1) _) ?_
 refine aC aF Tryz.func296 rfl (by decide) (by simp[Tryz.f296]) ?_
 have kc:=yN h [(a.kids,false),(b.kids,false)] true (by simp) (by simp[fK];omega) (by simp[fK];omega)
 have e:fK [(a.kids,false),(b.kids,false)]=a.kids++b.kids:=by simp[fK]
 rw[e] at kc
 have kf:=tU h (a.kids++b.kids) (by simp;omega) hs
 rw[i4,i4]
 repeat' (first|refine zA rfl ?_|refine aA ?_|refine aJ rfl ?_)
 refine cM aF rfl rfl rfl rfl rfl ?_
 repeat' (first|refine zA rfl ?_|refine aA ?_|refine aJ rfl ?_)
 refine cM aF rfl rfl rfl rfl rfl ?_
 repeat' (first|refine zA rfl ?_|refine aA ?_|refine aJ rfl ?_)
 refine cM aF rfl rfl rfl rfl rfl ?_
 repeat' (first|refine zA rfl ?_|refine aA ?_|refine aJ rfl ?_|refine aD rfl kc ?_|refine aD rfl kf ?_|refine zR rfl ?_)
 exact⟨rfl,_,rfl,_,rfl,aH.of_closed (cZ (h+1) _)⟩
theorem GU (h:Nat) (a b:Vt h) (ha:fL h a < 1000) (hb:fL h b < 1000) (h0:0 < fL h a+fL h b) (hs:(bE h a++bE h b).length < 1000000000):aN Tryz.prog 296 [dW h a,dW h b] (.sl 1 ((eQ h a b).map (dW h)) .none):=by
 cases h with
 |zero=>exact V4 a.row b.row ha hb h0
 |succ h=>exact Z1 h a b ha hb h0 (by rw[bS];exact hs)
theorem T1 {h:Nat} {l:Vt (h+1)} {k:Ky} (hv:lE (h+1) l) (hr:cJ (bE (h+1) l)):1≤(bC (h+1) l k).kids.length∧(bC (h+1) l k).kids.length≤4:=by
 have h1:=(oE (h+1) l k hv hr).2.1 hv
 exact⟨h1.1,h1.2.1⟩
theorem UY {α:Type} {c b m:List α} {y x:α}:eD ((c++[y])++x::b) c.length 2 m=c++(m++b):=by
 unfold eD
 simp
theorem KD (h:Nat) (l:Vt (h+1)) (hv:lE (h+1) l) (hr:cJ (bE (h+1) l)) (hn:(bE (h+1) l).length < 10000000) (k:Ky) (ih:∀v:Vt h,lE h v→cJ (bE h v)→(bE h v).length < 10000000→aN Tryz.prog (XL h) [uC h v,k.av] (dW h (bC h v k))):aN Tryz.prog 289 [.agg [.sl 1 (l.kids.map (dW h)) .none,.int .i64 ((bE (h+1) l).length:Int)],k.av] (dW (h+1) (bC (h+1) l k)):=by
 intro M
 refine aC aF Tryz.func289 rfl (by decide) (by simp[Tryz.f289]) ?_
 have hv':=hv
 obtain⟨h1,h2,h3⟩:=hv'
 have kb:=t8 h l.kids ((bE (h+1) l).length:Int) (by omega) h3 k
 have hdl:=T1 (k:=k) hv hr
 have hda:=(oE (h+1) l k hv hr).1
 have hdn:=oI (bE (h+1) l) k
 rw[←hda] at hdn
 obtain⟨a,v,b,e1,e2,e3,e4,e5,e6,e7⟩:=DJ (k:=k) hv hr
 rw[e2] at kb
 have hall:(bE (h+1) l).length=(bF h a).length+((bE h v).length+(bF h b).length):=by
  show (bF h l.kids).length=_
  rw[e1,bS,eE,List.length_append,List.length_append]
 have kv:=ih v e3 e4 (by omega)
 have hdv:=oE h v k (jC e3) e4
 have hx:l.kids[a.length]? =some v:=by rw[e1];simp
 have hal:a.length+b.length+1≤4:=by
  have:=congrArg List.length e1
  simp at this
  omega
 have hdnv:=oI (bE h v) k
 rw[←hdv.1] at hdnv
 have hsv:=IU (hdv.2.1 e3)
 have ks:=a0l h (bC h v k)
 have md:=a4b h
 have ms:=a7y h
 have kf:=tU h (bC (h+1) l k).kids (by omega) (by show (bE (h+1) (bC (h+1) l k)).length < _;omega)
 have hsm:(bB (bC (h+1) l k).kids:List (Vt (h+1)))=[(bC (h+1) l k:Vt (h+1))]:=E7 hdl.2
 rw[hsm] at kf
 have hi0:([(bC (h+1) l k:Vt (h+1))])[0]? =some (bC (h+1) l k):=rfl
 have hre:dW (h+1) (bC (h+1) l k)=.iface (GJ (h+1)) (uC (h+1) (bC (h+1) l k)):=i4 _ _
 rw[hre]
 rw[i4] at kv
 rcases e7 with ⟨g1,g2⟩|⟨g1,c,y,g2,g3⟩|⟨g1,g2,y,c,g3,g4⟩
 ·have hw:eD l.kids a.length 1 [bC h v k]=(bC (h+1) l k).kids:=by rw[e1,tZ];exact g2.symm
  have kw:=xN h l.kids ((bE (h+1) l).length:Int) (by omega) a.length 1 (by have:=congrArg List.length e1;simp at this;omega) [bC h v k] (by simp) (by rw[hw];omega)
  rw[hw] at kw
  have kw:=kw.sub (args:=[.agg [.sl 1 (l.kids.map (dW h)) .none,.int .i64 ((bE (h+1) l).length:Int)],.int .i64 (a.length:Int),.int .i64 ((1:Nat):Int),.sl 1 [.iface (GJ h) (uC h (bC h v k))] .full]) ⟨Sub.refl,Sub.refl,Sub.refl,by rw[←i4];exact Sub.untag,trivial⟩
  have d1:decide ((2:Int)≤(fL h (bC h v k):Int))=true:=decide_eq_true (by omega)
  generalize (bC (h+1) l k)=D at*
  repeat' (first|refine zA rfl ?_|refine aA ?_|refine aJ rfl ?_|refine aD rfl kb ?_|refine aO mixed [2,0,1,3,4,5,6,7] [.R,.R,.P,.R,.R,.R,.P,.P] rfl rfl (by kernel_rfl) ?_)
  refine dT aF rfl rfl rfl rfl rfl rfl rfl rfl rfl rfl (Int.natCast_nonneg _) (g9 hx) ?_
  repeat' (first|refine zA rfl ?_)
  refine dC rfl rfl rfl rfl rfl md kv ?_
  repeat' (first|refine zA rfl ?_|refine aA ?_|refine aJ rfl ?_)
  refine dC rfl rfl rfl rfl rfl ms ks ?_
  repeat' (first|refine zB rfl d1 ?_|refine zA rfl ?_|refine aA ?_|refine aJ rfl ?_|refine aD rfl kw ?_|refine aD rfl kf ?_|refine zX rfl (⟨Int.le_refl 0,g9 (i:=0) hi0⟩) ?_|refine zR rfl ?_)
  exact⟨rfl,_,rfl,rfl,rfl⟩
 ·subst g2
  have hsy:lE h y:=h3 y (by rw[e1];simp)
  have hy2:=tN hsy
  have hw:eD l.kids c.length 2 (eQ h y (bC h v k))=(bC (h+1) l k).kids:=by rw[e1,UY];exact g3.symm
  have kj:=GU h y (bC h v k) (by omega) (by omega) (by omega) (by
   have hyl:(bF h (c++[y])).length=(bF h c).length+(bE h y).length:=by rw[bS,yZ,List.length_append]
   rw[List.length_append]
   omega)
  have hjl:=uB h y (bC h v k) (by omega)
  have hjl2:(eQ h y (bC h v k)).length≤2:=by rw[hjl];split<;>omega
  have kw:=xN h l.kids ((bE (h+1) l).length:Int) (by omega) c.length 2 (by have:=congrArg List.length e1;simp at this;omega) (eQ h y (bC h v k)) (by omega) (by rw[hw];omega)
  rw[hw] at kw
  have d1:decide ((2:Int)≤(fL h (bC h v k):Int))=false:=by simp;omega
  have la:(c++[y]).length=c.length+1:=by simp
  have d2:decide ((0:Int) < ((c++[y]).length:Int))=true:=by rw[la];exact decide_eq_true (by omega)
  have w1:IntKind.wrap .i64 (((c++[y]).length:Int) - 1)=(c.length:Int):=by
   rw[la]
   exact (Go.Ab.wrap_small (by omega) (by omega)).trans (by omega)
  have hxy:l.kids[c.length]? =some y:=by rw[e1];simp
  rw[i4,i4] at kj
  generalize (bC (h+1) l k)=D at*
  repeat' (first|refine zA rfl ?_|refine aA ?_|refine aJ rfl ?_|refine aD rfl kb ?_|refine aO mixed [2,0,1,3,4,5,6,7] [.R,.R,.P,.R,.R,.R,.P,.P] rfl rfl (by kernel_rfl) ?_)
  refine dT aF rfl rfl rfl rfl rfl rfl rfl rfl rfl rfl (Int.natCast_nonneg _) (g9 hx) ?_
  repeat' (first|refine zA rfl ?_)
  refine dC rfl rfl rfl rfl rfl md kv ?_
  repeat' (first|refine zA rfl ?_|refine aA ?_|refine aJ rfl ?_)
  refine dC rfl rfl rfl rfl rfl ms ks ?_
  repeat' (first|refine zB rfl (by first|exact d1|exact d2) ?_|refine zI rfl w1 ?_|refine zA rfl ?_|refine aA ?_|refine aJ rfl ?_|refine aD rfl kj ?_|refine aD rfl kw ?_|refine aD rfl kf ?_|refine zX rfl (⟨Int.natCast_nonneg _,g9 hxy⟩) ?_|refine zX rfl (⟨Int.le_refl 0,g9 (i:=0) hi0⟩) ?_|refine aO mixed [1,2,5,6,9,0,3,4,7,8,10,11,12,13,14,15] [.R,.P,.P,.R,.R,.P,.P,.R,.R,.P,.P,.P,.P,.R,.R,.P] rfl rfl (by kernel_rfl) ?_)
  exact⟨rfl,_,rfl,rfl,rfl⟩
 ·subst g2
  subst g3
  have hsy:lE h y:=h3 y (by rw[e1];simp)
  have hy2:=tN hsy
  have hw:eD l.kids 0 2 (eQ h (bC h v k) y)=(bC (h+1) l k).kids:=by
   rw[e1]
   unfold eD
   exact g4.symm
  have kj:=GU h (bC h v k) y (by omega) (by omega) (by omega) (by
   rw[List.length_append]
   rw[eE,List.length_append] at hall
   omega)
  have hjl:=uB h (bC h v k) y (by omega)
  have hjl2:(eQ h (bC h v k) y).length≤2:=by rw[hjl];split<;>omega
  have kw:=xN h l.kids ((bE (h+1) l).length:Int) (by omega) 0 2 (by have:=congrArg List.length e1;simp at this;omega) (eQ h (bC h v k) y) (by omega) (by rw[hw];omega)
  rw[hw] at kw
  have d1:decide ((2:Int)≤(fL h (bC h v k):Int))=false:=by simp;omega
  have hxy:l.kids[1]? =some y:=by rw[e1];rfl
  rw[i4,i4] at kj
  generalize (bC (h+1) l k)=D at*
  repeat' (first|refine zA rfl ?_|refine aA ?_|refine aJ rfl ?_|refine aD rfl kb ?_|refine aO mixed [2,0,1,3,4,5,6,7] [.R,.R,.P,.R,.R,.R,.P,.P] rfl rfl (by kernel_rfl) ?_)
  refine dT aF rfl rfl rfl rfl rfl rfl rfl rfl rfl rfl (Int.le_refl 0) (g9 (i:=0) hx) ?_
  repeat' (first|refine zA rfl ?_)
  refine dC rfl rfl rfl rfl rfl md kv ?_
  repeat' (first|refine zA rfl ?_|refine aA ?_|refine aJ rfl ?_)
  refine dC rfl rfl rfl rfl rfl ms ks ?_
  repeat' (first|refine zB rfl d1 ?_|refine zA rfl ?_|refine aA ?_|refine aJ rfl ?_|refine aD rfl kj ?_|refine aD rfl kw ?_|refine aD rfl kf ?_|refine zX rfl (⟨Int.le_of_lt Int.one_pos,g9 (i:=1) hxy⟩) ?_|refine zX rfl (⟨Int.le_refl 0,g9 (i:=0) hi0⟩) ?_|refine aO mixed [1,0,2,3,4,5,6,7,8,9,10,11] [.R,.P,.R,.R,.R,.R,.P,.P,.P,.R,.R,.P] rfl rfl (by kernel_rfl) ?_)
  exact⟨rfl,_,rfl,rfl,rfl⟩
theorem H1:∀(h:Nat) (v:Vt h) (k:Ky),ML h v→cJ (bE h v)→(bE h v).length < 10000000→aN Tryz.prog (XL h) [uC h v,k.av] (dW h (bC h v k))
 |0,l,k,hv,_,_=>I0 l.row (by have:l.row.length≤4:=hv;omega) k
 |h+1,l,k,hv,hr,hn=>KD h l hv hr hn k (fun v e3 e4 e5=>H1 h v k (jC e3) e4 e5)
theorem a1t {h:Nat} {v:Vt (h+1)} (hv:okD (h+1) v) (h1:¬1 < v.kids.length):∃x:Vt h,v.kids=[x]∧lE h x∧bE (h+1) v=bE h x:=by
 obtain⟨a,b,c⟩:=hv
 match hk:v.kids,a,h1,c with
 |[],a,_,_=>simp at a
 |[x],_,_,c=>
  refine⟨x,rfl,c x (by simp),?_⟩
  show (v.kids.map (bE h)).flatten=_
  rw[hk]
  simp
 |x::y::r,_,h1,_=>simp at h1
def lO (v:AV):AF:=⟨[(5,v)],[]⟩
theorem SL (t:Tr) (k:Ky) (hs:t.all.length < 10000000):∃u:Tr,u.all=dJ t.all k∧aS Tryz.prog 186 [t.av,k.av] ⟨0,[]⟩ fun e _=>∃x,e=.ret x∧aH 0 x u.av:=by
 obtain⟨h,v,hv,hr⟩:=t
 have hs':(bE h v).length < 10000000:=hs
 have kt:=AE ⟨h,v,hv,hr⟩
 have kd:=H1 h v k hv hr hs'
 have md:=a4b h
 obtain⟨a1,a2,a3⟩:=oE h v k hv hr
 have hdr:=zD (k:=k) hr
 cases h with
 |zero=>
  have o1:ML 0 (bC 0 v k):=by
   show (dJ v.row k).length≤4
   have:=oI v.row k
   have:v.row.length≤4:=hv
   omega
  have o2:cJ (bE 0 (bC 0 v k)):=by rw[a1];exact hdr
  refine⟨⟨0,bC 0 v k,o1,o2⟩,a1,?_⟩
  have hc:=bL ⟨0,bC 0 v k,o1,o2⟩
  refine aC aF Tryz.func186 rfl (by decide) (by simp[Tryz.f186]) ?_
  rw[i4] at kd
  repeat' (first|refine zA rfl ?_|refine aA ?_|refine aJ rfl ?_|refine aD rfl kt ?_|refine aO mixed [0,1,2,3,4] [.P,.P,.R,.P,.P] rfl rfl (by kernel_rfl) ?_)
  refine dC rfl rfl rfl rfl rfl md kd ?_
  repeat' (first|refine zA rfl ?_|refine aA ?_|refine aJ rfl ?_)
  refine lV (fun c f N=>N=⟨0,[]⟩∧f=lO (.iface (GJ 0) (uC 0 (bC 0 v k)))) (k:=0) ⟨rfl,rfl⟩ (aM.le ?_ (aI.le_nil rfl)) ?_
  ·unfold lO
   repeat (refine AF.le_cons rfl ?_)
   exact AF.le_nil rfl
  rintro c f N ⟨rfl,rfl⟩
  unfold lO
  repeat' (first|refine zA rfl ?_|refine aJ rfl ?_)
  refine cM aF rfl rfl rfl rfl rfl ?_
  repeat' (first|refine zA rfl ?_|refine aA ?_|refine aJ rfl ?_)
  exact⟨rfl,_,rfl,_,rfl,aH.of_closed hc⟩
 |succ h=>
  have hd:=a2 hv
  rw[i4] at kd
  by_cases h1:1 < (bC (h+1) v k).kids.length
  ·have o1:ML (h+1) (bC (h+1) v k):=P4 hd h1
   have o2:cJ (bE (h+1) (bC (h+1) v k)):=by rw[a1];exact hdr
   refine⟨⟨h+1,bC (h+1) v k,o1,o2⟩,a1,?_⟩
   have hc:=bL ⟨h+1,bC (h+1) v k,o1,o2⟩
   have la:=aU (dW h) (bC (h+1) v k).kids
   have d1:decide ((1:Int) < ((bC (h+1) v k).kids.length:Int))=true:=by simp;omega
   refine aC aF Tryz.func186 rfl (by decide) (by simp[Tryz.f186]) ?_
   repeat' (first|refine zA rfl ?_|refine aA ?_|refine aJ rfl ?_|refine aD rfl kt ?_|refine aO mixed [0,1,2,3,4] [.P,.P,.R,.P,.P] rfl rfl (by kernel_rfl) ?_)
   refine dC rfl rfl rfl rfl rfl md kd ?_
   repeat' (first|refine zA rfl ?_|refine aA ?_|refine aJ rfl ?_)
   refine lV (fun c f N=>N=⟨0,[]⟩∧f=lO (.iface (GJ (h+1)) (uC (h+1) (bC (h+1) v k)))) (k:=0) ⟨rfl,rfl⟩ (aM.le ?_ (aI.le_nil rfl)) ?_
   ·unfold lO
    repeat (refine AF.le_cons rfl ?_)
    exact AF.le_nil rfl
   rintro c f N ⟨rfl,rfl⟩
   unfold lO
   repeat' (first|refine zA rfl ?_|refine aJ rfl ?_)
   refine cM aF rfl rfl rfl rfl rfl ?_
   repeat' (first|refine zB rfl d1 ?_|refine zI rfl la ?_|refine zA rfl ?_|refine aA ?_|refine aJ rfl ?_)
   exact⟨rfl,_,rfl,_,rfl,aH.of_closed hc⟩
  ·obtain⟨x,hx,ox,hall⟩:=a1t hd h1
   have o1:ML h x:=jC ox
   have o2:cJ (bE h x):=by rw[←hall,a1];exact hdr
   refine⟨⟨h,x,o1,o2⟩,(hall.symm.trans a1),?_⟩
   have hc:=bL ⟨h,x,o1,o2⟩
   have la:=aU (dW h) (bC (h+1) v k).kids
   have d1:decide ((1:Int) < ((bC (h+1) v k).kids.length:Int))=false:=by simp;omega
   have hx0:(bC (h+1) v k).kids[0]? =some x:=by rw[hx];rfl
   refine aC aF Tryz.func186 rfl (by decide) (by simp[Tryz.f186]) ?_
   repeat' (first|refine zA rfl ?_|refine aA ?_|refine aJ rfl ?_|refine aD rfl kt ?_|refine aO mixed [0,1,2,3,4] [.P,.P,.R,.P,.P] rfl rfl (by kernel_rfl) ?_)
   refine dC rfl rfl rfl rfl rfl md kd ?_
   repeat' (first|refine zA rfl ?_|refine aA ?_|refine aJ rfl ?_)
   refine lV (fun c f N=>N=⟨0,[]⟩∧((c=1∧f=lO (.iface (GJ (h+1)) (uC (h+1) (bC (h+1) v k))))∨(c=0∧f=lO (.iface (GJ h) (uC h x))))) (k:=1) ⟨rfl,.inl ⟨rfl,rfl⟩⟩ (aM.le ?_ (aI.le_nil rfl)) ?_
   ·unfold lO
    repeat (refine AF.le_cons rfl ?_)
    exact AF.le_nil rfl
   rintro c f N ⟨rfl,⟨rfl,rfl⟩|⟨rfl,rfl⟩⟩
   ·unfold lO
    repeat' (first|refine zA rfl ?_|refine aJ rfl ?_)
    refine cM aF rfl rfl rfl rfl rfl ?_
    repeat' (first|refine zB rfl d1 ?_|refine zI rfl la ?_|refine zA rfl ?_|refine aA ?_|refine aJ rfl ?_|refine zX rfl (⟨Int.le_refl 0,g9 (i:=0) hx0⟩) ?_)
    refine⟨0,lO (.iface (GJ h) (uC h x)),⟨0,[]⟩,by decide,⟨rfl,.inr ⟨rfl,rfl⟩⟩,aM.cut (k:=0) (t:=(lO (.iface (GJ h) (uC h x))).t) (l:=[]) (Nat.le_refl _) (Nat.zero_le _) rfl ⟨?_,trivial⟩ trivial⟩
    rw[←i4]
    exact aH.of_closed (dU h x)
   ·cases h with
    |zero=>
     unfold lO
     repeat' (first|refine zA rfl ?_|refine aJ rfl ?_)
     refine cM aF rfl rfl rfl rfl rfl ?_
     repeat' (first|refine zA rfl ?_|refine aA ?_|refine aJ rfl ?_)
     exact⟨rfl,_,rfl,_,rfl,aH.of_closed hc⟩
    |succ h=>
     have h2:2≤x.kids.length:=ox.1
     have lb:=aU (dW h) x.kids
     have d2:decide ((1:Int) < (x.kids.length:Int))=true:=by simp;omega
     unfold lO
     repeat' (first|refine zA rfl ?_|refine aJ rfl ?_)
     refine cM aF rfl rfl rfl rfl rfl ?_
     repeat' (first|refine zB rfl d2 ?_|refine zI rfl lb ?_|refine zA rfl ?_|refine aA ?_|refine aJ rfl ?_)
     exact⟨rfl,_,rfl,_,rfl,aH.of_closed hc⟩
theorem y3 (t:Tr) (k:Ky) (hs:t.all.length < 10000000):∃u:Tr,u.all=dJ t.all k∧aN Tryz.prog 186 [t.av,k.av] u.av:=by
 obtain⟨u,h1,h2⟩:=SL t k hs
 exact⟨u,h1,aT (aZ (bL t) (j9 k)) (bL u) h2⟩
noncomputable def wH (t:Tr) (k:Ky):Tr:=if h:t.all.length < 10000000 then Classical.choose (y3 t k h) else t
theorem SY {t:Tr} {k:Ky} (h:t.all.length < 10000000):(wH t k).all=dJ t.all k:=by
 unfold wH
 rw[dif_pos h]
 exact (Classical.choose_spec (y3 t k h)).1
theorem WW {t:Tr} {k:Ky} (h:t.all.length < 10000000):aN Tryz.prog 186 [t.av,k.av] (wH t k).av:=by
 unfold wH
 rw[dif_pos h]
 exact (Classical.choose_spec (y3 t k h)).2
theorem aS.frame2 {g:FuncId} {args args1 c1 c2 d1 d2:List AV} {r:AV} {M:aI} (i j:Nat) (hne:i≠j) (hM1:M.get i=some (.cells c1)) (hM2:M.get j=some (.cells c2)) (h1:i < M.next) (h2:j < M.next) (k1:∀x,x∈c1→aP x) (k2:∀x,x∈c2→aP x)
  (h:aS Tryz.prog g args1 ⟨2,[(0,.cells c1),(1,.cells c2)]⟩ fun e N=>e=.ret r∧N=⟨2,[(0,.cells d1),(1,.cells d2)]⟩) (hargs:C6 [i,j] args args1) (hr:aP r) (q1:∀x,x∈d1→aP x) (q2:∀x,x∈d2→aP x):
  aS Tryz.prog g args M fun e N=>e=.ret r∧N=(M.set i (.cells d1)).set j (.cells d2):=by
 refine aS.frame [i,j] (by simp[hne]) (by intro k hk;simp at hk;rcases hk with rfl|rfl<;>assumption) (N0:=⟨2,[(0,.cells c1),(1,.cells c2)]⟩) rfl ?_ h hargs ?_
 ·intro k o1 hk
  have hk':(if k=0 then some (cT.cells c1) else if k=1 then some (.cells c2) else none)=some o1:=hk
  split at hk'
  ·rename_i h0
   subst h0
   cases hk'
   exact⟨i,_,rfl,hM1,C6.closed k1⟩
  ·split at hk'
   ·rename_i h0
    subst h0
    cases hk'
    exact⟨j,_,rfl,hM2,C6.closed k2⟩
   ·cases hk'
 ·rintro e M1 ⟨rfl,rfl⟩
  refine⟨.ret r,(M.set i (.cells d1)).set j (.cells d2),fW.closed hr,⟨by show M.next=M.next+(2 - 2);omega,?_⟩,rfl,rfl⟩
  intro k o hk
  rw[aI.get_set] at hk
  split at hk
  ·rename_i h0
   cases hk
   exact .inl ⟨1,_,.inl (by rw[h0];rfl),rfl,qK.closed q2⟩
  ·rename_i h0
   rw[aI.get_set] at hk
   split at hk
   ·rename_i h3
    cases hk
    exact .inl ⟨0,_,.inl (by rw[h3];rfl),rfl,qK.closed q1⟩
   ·rename_i h3
    exact .inr ⟨by simp;exact⟨h3,h0⟩,hk⟩
def gC (s:Option aG) (p:Pr) (w:Int):Bool×Option aG:=if w < p.key.time then (true,s) else (!decide (s=some p.key.path)&&!(bW p.val).2.1,some p.key.path)
def kC (s:Option aG):List AV:=[.str (s.getD [])]
def kA (s:Option aG):List AV:=[.bool s.isSome]
theorem V2 (p:Pr) (s:Option aG) (w:Int) (hv:p.val.length < 1000000):aS Tryz.prog 227 [p.av,.ref [.int .i64 w],.ptr 1 0,.ptr 0 0] ⟨2,[(0,.cells (kC s)),(1,.cells (kA s))]⟩ (fun e N=>∃x,e=.ret x∧aH 2 x (.bool (gC s p w).1)∧2≤N.next∧gU 2 N [(0,.cells (kC (gC s p w).2)),(1,.cells (kA (gC s p w).2))]):=by
 refine aC aF Tryz.func227 rfl (by decide) (by simp[Tryz.f227]) ?_
 have kr:=x8 p.val hv
 have fin:∀(N:aI) (s:Option aG),N.get 0=some (.cells (kC s))→N.get 1=some (.cells (kA s))→gU 2 N [(0,.cells (kC s)),(1,.cells (kA s))]:=fun N s h0 h1=>dL (by decide) h0 (aY aR) (dL (by decide) h1 (aY aL) trivial)
 unfold gC
 by_cases h:w < p.key.time
 ·have d1:decide (w < p.key.time)=true:=by simp[h]
  rw[if_pos h]
  unfold kC kA
  repeat' (first|refine zB rfl d1 ?_|refine zA rfl ?_|refine aA ?_|refine aJ rfl ?_)
  exact⟨rfl,_,rfl,_,rfl,aH.of_closed aL,Nat.le_refl 2,fin _ s rfl rfl⟩
 ·have d1:decide (w < p.key.time)=false:=by simp[h]
  rw[if_neg h]
  generalize bW p.val=x at*
  obtain⟨m,g,e⟩:=x
  unfold rmA at kr
  cases s with
  |none=>
   unfold kC kA
   cases g
   ·repeat' (first|refine zB rfl d1 ?_|refine zA rfl ?_|refine aA ?_|refine aJ rfl ?_|refine aD rfl kr ?_)
    exact⟨rfl,_,rfl,_,rfl,aH.of_closed aL,(by show 2≤3;omega),fin _ (some p.key.path) rfl rfl⟩
   ·repeat' (first|refine zB rfl d1 ?_|refine zA rfl ?_|refine aA ?_|refine aJ rfl ?_|refine aD rfl kr ?_)
    exact⟨rfl,_,rfl,_,rfl,aH.of_closed aL,(by show 2≤3;omega),fin _ (some p.key.path) rfl rfl⟩
  |some q=>
   have e1:decide (some q=some p.key.path)=(p.key.path==q):=by
    rw[Bool.eq_iff_iff]
    simp
    exact⟨fun h=>h.symm,fun h=>h.symm⟩
   rw[e1]
   unfold kC kA
   cases hq:p.key.path==q
   ·have d2:(!(p.key.path==q))=true:=by rw[hq];rfl
    cases g
    ·repeat' (first|refine zB rfl (by first|exact d1|exact d2) ?_|refine zA rfl ?_|refine aA ?_|refine aJ rfl ?_|refine aD rfl kr ?_)
     exact⟨rfl,_,rfl,_,rfl,aH.of_closed aL,(by show 2≤3;omega),fin _ (some p.key.path) rfl rfl⟩
    ·repeat' (first|refine zB rfl (by first|exact d1|exact d2) ?_|refine zA rfl ?_|refine aA ?_|refine aJ rfl ?_|refine aD rfl kr ?_)
     exact⟨rfl,_,rfl,_,rfl,aH.of_closed aL,(by show 2≤3;omega),fin _ (some p.key.path) rfl rfl⟩
   ·have d2:(!(p.key.path==q))=false:=by rw[hq];rfl
    cases g
    ·repeat' (first|refine zB rfl (by first|exact d1|exact d2) ?_|refine zA rfl ?_|refine aA ?_|refine aJ rfl ?_|refine aD rfl kr ?_)
     exact⟨rfl,_,rfl,_,rfl,aH.of_closed aL,(by show 2≤3;omega),fin _ (some p.key.path) rfl rfl⟩
    ·repeat' (first|refine zB rfl (by first|exact d1|exact d2) ?_|refine zA rfl ?_|refine aA ?_|refine aJ rfl ?_|refine aD rfl kr ?_)
     exact⟨rfl,_,rfl,_,rfl,aH.of_closed aL,(by show 2≤3;omega),fin _ (some p.key.path) rfl rfl⟩
theorem WQ (p:Pr) (s:Option aG) (w:Int) (hv:p.val.length < 1000000):aS Tryz.prog 227 [p.av,.ref [.int .i64 w],.ptr 1 0,.ptr 0 0] ⟨2,[(0,.cells (kC s)),(1,.cells (kA s))]⟩ fun e N=>e=.ret (.bool (gC s p w).1)∧N=⟨2,[(0,.cells (kC (gC s p w).2)),(1,.cells (kA (gC s p w).2))]⟩:=
 aS.cutL (V2 p s w hv)
theorem a2x (p:Pr) (s:Option aG) (w:Int) (hv:p.val.length < 1000000) {M:aI} (h2:M.get 1=some (.cells (kC s))) (h3:M.get 2=some (.cells (kA s))) (hn:3≤M.next):aS Tryz.prog 227 [p.av,.ref [.int .i64 w],.ptr 2 0,.ptr 1 0] M fun e N=>e=.ret (.bool (gC s p w).1)∧N=(M.set 1 (.cells (kC (gC s p w).2))).set 2 (.cells (kA (gC s p w).2)):=
 aS.frame2 1 2 (by decide) h2 h3 (by omega) (by omega) (aY aR) (aY aL) (WQ p s w hv) ⟨lZ.closed (i7 p),lZ.closed (j7 (aY aB)),lZ.ptr rfl,lZ.ptr rfl,trivial⟩ aL (aY aR) (aY aL)
def DA (w:Int):AV:=.fn (.func 227) [] [.ref [.int .i64 w],.ptr 2 0,.ptr 1 0]
def UT (t:Tr):AV:=.fn (.func 228) [] [.ref [t.av],.ptr 3 0]
theorem ZG (o:cT) (w:Int):aS Tryz.prog 226 [.ref [.int .i64 w]] ⟨1,[(0,o)]⟩ (fun e N=>e=.ret (DA w)∧N=⟨3,[(2,.cells (kA none)),(1,.cells (kC none)),(2,.cells (kA none)),(1,.cells (kC none)),(0,o)]⟩):=by
 refine aC aF Tryz.func226 rfl (by decide) (by simp[Tryz.f226]) ?_
 repeat' (first|refine zA rfl ?_|refine aA ?_|refine aJ rfl ?_)
 exact⟨rfl,_,rfl,rfl,rfl⟩
theorem a3i (t:Tr) (o:cT) (w:Int):aS Tryz.prog 207 [t.av,.int .i64 w] ⟨1,[(0,o)]⟩ (fun e N=>e=.ret (UT t)∧aI.le ⟨4,[(0,o),(1,.cells (kC none)),(2,.cells (kA none)),(3,.cells [DA w])]⟩ N):=by
 refine aC aF Tryz.func207 rfl (by decide) (by simp[Tryz.f207]) ?_
 have k1:=ZG o w
 unfold UT Tr.av
 repeat' (first|refine zA rfl ?_|refine aA ?_|refine aJ rfl ?_|refine cU rfl rfl (k1) ?_ ?_)
 rotate_left
 ·intro u N h
  cases h.1
 rintro u N ⟨e,rfl⟩
 cases e
 repeat' (first|refine zA rfl ?_|refine aA ?_|refine aJ rfl ?_)
 exact⟨rfl,_,rfl,rfl,aI.le_cons rfl (aI.le_cons rfl (aI.le_cons rfl (aI.le_cons rfl (aI.le_nil rfl))))⟩
def B3 (w:Int) (st:Option aG×List Ky) (p:Pr):Option aG×List Ky:=((gC st.1 p w).2,if (gC st.1 p w).1=true then st.2 else st.2++[p.key])
def dQ (w:Int) (l:List Pr):Option aG×List Ky:=l.foldl (B3 w) (none,[])
theorem LR {w:Int} {l:List Pr} {i:Nat} {x:Pr} (h:l.take (i+1)=l.take i++[x]):dQ w (l.take (i+1))=B3 w (dQ w (l.take i)) x:=by
 unfold dQ
 rw[h,List.foldl_append]
 rfl
def vM (w:Int) (s:Option aG) (L:List Ky) (g:Nat) (O:cT):aI:=⟨7,[(0,.cells [.sl 2 (L.map Ky.av) (.tok 4 g)]),(1,.cells (kC s)),(2,.cells (kA s)),(3,.cells [DA w]),(4,.spare g),(5,l7),(6,O)]⟩
theorem XG (l:List Ky):∀x,x∈l.map Ky.av→∀c,c∈x.cells→aP c:=by
 intro x hx c hc
 obtain⟨k,_,rfl⟩:=List.mem_map.1 hx
 have:c∈[AV.str k.path,.int .i64 k.time]:=hc
 exact aZ aR aB c this
def ZP (O:cT):Prop:=∃o vs t,O=.raw none o vs t∧∀i,aH 7 ((aK t i).getD .top) ((aK t i).getD .top)
theorem a08 {w:Int} {s:Option aG} {L:List Ky} {g:Nat} {O:cT} {N:aI} (hO:ZP O) (h:∀i o,(vM w s L g O).get i=some o→N.get i=some o):gU 7 N (vM w s L g O).objs:=by
 obtain⟨o,vs,t,rfl,ht⟩:=hO
 refine⟨by decide,?_,?_⟩
 ·rw[h 0 _ rfl]
  refine⟨rfl,fun i x y hx hy=>?_⟩
  rw[hx] at hy
  cases hy
  have:x∈[AV.sl 2 (L.map Ky.av) (.tok 4 g)]:=List.mem_of_getElem? hx
  simp at this
  subst this
  exact aH.tok rfl (XG L)
 refine dL (by decide) (h 1 _ rfl) (aY aR) (dL (by decide) (h 2 _ rfl) (aY aL) ⟨by decide,?_,by decide,?_,by decide,?_,by decide,?_,trivial⟩)
 ·rw[h 3 _ rfl]
  refine⟨rfl,fun i x y hx hy=>?_⟩
  rw[hx] at hy
  cases hy
  have:x∈[DA w]:=List.mem_of_getElem? hx
  simp at this
  subst this
  refine aH.fn (by simp) ?_
  intro x hx
  simp at hx
  rcases hx with rfl|rfl|rfl
  ·exact aH.of_closed (j7 (aY aB))
  ·exact aH.ptr rfl
  ·exact aH.ptr rfl
 ·rw[h 4 _ rfl]
  rfl
 ·rw[h 5 _ rfl]
  exact⟨rfl,rfl,rfl,fun i=>aH.top⟩
 ·rw[h 6 _ rfl]
  exact⟨rfl,rfl,rfl,ht⟩
def vM8 (w:Int) (s:Option aG) (L:List Ky) (g:Nat) (O:cT) (c:List AV):aI:=⟨8,(7,.cells c)::(vM w s L g O).objs⟩
theorem a2z {w:Int} {s:Option aG} {L:List Ky} {g:Nat} {O:cT} {c:List AV} {j:Nat} {o:cT} (h:(vM w s L g O).get j=some o):(vM8 w s L g O c).get j=some o:=by
 show (if j=7 then some (cT.cells c) else (vM w s L g O).get j)=some o
 by_cases e:j=7
 ·subst e
  cases h
 ·rw[if_neg e]
  exact h
theorem aH.yld {k id:Nat} (h:decide (id < k)=true):aH k (.yld id) (.yld id):=by
 have h':=of_decide_eq_true h
 intro μ F w v hr
 cases hr with
 |yld _ _ h1 h2 h3=>exact .yld id v h1 (by simp[cut,h'];exact h2) (fun b hb=>h3 b (by simpa [cut,h'] using hb))
def d2F (A:List Pr) (i:Nat):AF:=⟨[(0,.yld 6),(2,.ptr 3 0),(7,.sl 3 (A.map Pr.av) .none),(8,.int .i64 (A.length:Int)),(9,.int .i64 (i:Int))],[]⟩
theorem ZS (t:Tr) (hs:t.all.length < 10000000) (hv:∀p,p∈t.all→p.val.length < 1000000) (w:Int) (O:cT) (hO:ZP O) (hY:∀(s:Option aG) (L:List Ky) (g:Nat) (k:Ky) (c:List AV),L.length < 10000000→fS Tryz.prog 6 [k.av] (vM8 w s L g O c) fun e N'=>e=.ret (.bool true)∧8≤N'.next∧∀i o,(vM w s (L++[k]) (g+1) O).get i=some o→N'.get i=some o):aS Tryz.prog 228 [.yld 6,.ref [t.av],.ptr 3 0] (vM w none [] 0 O) (fun e N=>e=.ret (.tup [])∧∃g,(vM w (dQ w t.all).1 (dQ w t.all).2 g O).le N):=by
 refine aC aF Tryz.func228 rfl (by decide) (by simp[Tryz.f228]) ?_
 have ka:=tQ t hs
 have lA:=aU Pr.av t.all
 unfold Tr.av at ka ⊢
 repeat' (first|refine zI rfl lA ?_|refine zA rfl ?_|refine aA ?_|refine aJ rfl ?_|refine aD rfl ka ?_)
 generalize t.all=A at*
 refine aX A.length (fun i f N=>(∃g,(dQ w (A.take i)).2.length≤i∧N=vM w (dQ w (A.take i)).1 (dQ w (A.take i)).2 g O)∧f=d2F A i) (Nat.zero_le _) ⟨⟨0,Nat.zero_le _,rfl⟩,rfl⟩ (aM.le ?_ (aI.le_refl _)) ?_
 ·unfold d2F
  repeat (refine AF.le_cons rfl ?_)
  exact AF.le_nil rfl
 rintro i f N hi ⟨⟨g,hLi,rfl⟩,rfl⟩
 by_cases h1:i < A.length
 ·have d1:decide ((i:Int) < (A.length:Int))=true:=by simp;omega
  have hx:A[i]? =some A[i]:=List.getElem?_eq_getElem h1
  have fi:=aQ (i:=i) (by omega)
  have hb:=hv _ (List.getElem_mem h1)
  have hst:=LR (w:=w) (b7 hx)
  generalize A[i]=x at hx hb hst
  generalize dQ w (A.take i)=st at*
  generalize dQ w (A.take (i+1))=st2 at*
  obtain⟨s,L⟩:=st
  unfold d2F vM
  repeat' (first|refine zB rfl d1 ?_|refine zA rfl ?_|refine aA ?_|refine aJ rfl ?_|refine zX rfl (c7 hx) ?_)
  have hk:∀(e:dG) (N:aI),True:=fun _ _=>trivial
  refine cU rfl rfl (a2x x s w hb rfl rfl (by show 3≤8;decide)) ?_ (fun u M' h=>by cases h.1)
  rintro u N ⟨e,rfl⟩
  cases e
  have fin:∀(g2:Nat) (f2:AF) (M2:aI),st2.2.length≤i+1→f2.d=[]→J7 7 f2 (d2F A (i+1)).t→7≤M2.next→(∀j o,(vM w st2.1 st2.2 g2 O).get j=some o→M2.get j=some o)→
    i < A.length∧∃f'' M'',((∃g,st2.2.length≤i+1∧M''=vM w st2.1 st2.2 g O)∧f''=d2F A (i+1))∧aM 7 f2 M2 f'' M'':=by
   intro g2 f2 M2 q1 q2 q3 q4 q5
   exact⟨h1,d2F A (i+1),vM w st2.1 st2.2 g2 O,⟨⟨g2,q1,rfl⟩,rfl⟩,aM.cut (n0:=7) (k:=7) (t:=(d2F A (i+1)).t) (l:=(vM w st2.1 st2.2 g2 O).objs) (Nat.le_refl _) q4 q2 q3 (a08 hO q5)⟩
  have hLi:L.length≤i:=hLi
  cases hkp:(gC s x w).1
  ·have e2:st2=((gC s x w).2,L++[x.key]):=by rw[hst];unfold B3;rw[hkp];rfl
   obtain⟨o,vs,t0,rfl,_⟩:=hO
   repeat' (first|refine zA rfl ?_)
   refine a14 rfl (ob:=o) (vs:=vs) (t0:=t0) rfl (fS.le (N:=vM8 w (gC s x w).2 L g (.raw none o vs t0) x.av.cells) ?_ (hY (gC s x w).2 L g x.key x.av.cells (by omega))) ?_ (by rintro u M' ⟨h,_⟩;cases h)
   ·exact aI.le_cons rfl (aI.le_cons rfl (aI.le_cons rfl (aI.le_cons rfl (aI.le_cons rfl (aI.le_cons rfl (aI.le_cons rfl (aI.le_cons rfl (aI.le_nil rfl))))))))
   rintro u M' ⟨h,hn,hget⟩
   cases h
   repeat' (first|refine zI rfl fi ?_|refine zA rfl ?_|refine aA ?_|refine aJ rfl ?_)
   refine fin (g+1) _ _ (by rw[e2];simp;omega) rfl ⟨?_,?_,?_,?_,?_,trivial⟩ (by omega) (by rw[e2];exact hget)
   ·exact aH.yld rfl
   ·exact aH.ptr rfl
   ·exact aH.of_closed (bO A)
   ·exact aH.of_closed aB
   ·exact aH.of_closed aB
  ·have e2:st2=((gC s x w).2,L):=by rw[hst];unfold B3;rw[hkp];rfl
   repeat' (first|refine zI rfl fi ?_|refine zA rfl ?_|refine aA ?_|refine aJ rfl ?_)
   refine fin g _ _ (by rw[e2];show L.length≤_;omega) rfl ⟨?_,?_,?_,?_,?_,trivial⟩ (by show 7≤8;decide) ?_
   ·exact aH.yld rfl
   ·exact aH.ptr rfl
   ·exact aH.of_closed (bO A)
   ·exact aH.of_closed aB
   ·exact aH.of_closed aB
   ·rw[e2]
    have key:∀M2:aI,(vM8 w (gC s x w).2 L g O x.av.cells).le M2→(∀j o,(vM w (gC s x w).2 L g O).get j=some o→M2.get j=some o):=fun M2 h j o hj=>h.2 j o (a2z hj)
    refine key _ ?_
    exact aI.le_cons rfl (aI.le_cons rfl (aI.le_cons rfl (aI.le_cons rfl (aI.le_cons rfl (aI.le_cons rfl (aI.le_cons rfl (aI.le_cons rfl (aI.le_nil rfl))))))))
 ·have d1:decide ((i:Int) < (A.length:Int))=false:=by simp;omega
  obtain rfl:i=A.length:=by omega
  rw[List.take_length]
  unfold d2F vM
  repeat' (first|refine zB rfl d1 ?_|refine aA ?_|refine aJ rfl ?_)
  exact⟨rfl,_,rfl,rfl,g,aI.le_refl _⟩
def ofO (l:List Pr) (w:Int):List Ky×Int:=if eY l=true∧¬w < 0 then ((dQ w l).2,0) else ([],1)
def ofA (x:List Ky×Int):AV:=.tup [.sl 2 (x.1.map Ky.av) .none,.int .i64 x.2]
theorem rZ (l:List Ky):aP (.sl 2 (l.map Ky.av) .none):=gO (fun k=>j9 k) (fun k c hc=>by
 have:c∈[AV.str k.path,.int .i64 k.time]:=hc
 exact aZ aR aB c this)
theorem LD (x:List Ky×Int):aP (ofA x):=aW (aZ (rZ _) aB)
def TQ (t:Tr):List (Nat×AV):=[(6,.ptr 0 0),(17,UT t)]
theorem a6z (t:Tr) (o:Obj) (vs:Array Value):ZP (.raw none o vs (TQ t)):=by
 refine⟨o,vs,_,rfl,fun i=>?_⟩
 unfold TQ
 simp only[aK]
 split
 ·exact aH.ptr rfl
 ·split
  ·refine aH.fn (by simp) ?_
   intro x hx
   simp at hx
   rcases hx with rfl|rfl
   ·exact aH.of_closed (j7 (aY (bL t)))
   ·exact aH.ptr rfl
  ·exact aH.top
def vM5 (w:Int):aI:=⟨5,[(0,.cells [.sl 2 [] (.tok 4 0)]),(1,.cells (kC none)),(2,.cells (kA none)),(3,.cells [DA w]),(4,.spare 0)]⟩
theorem TD {n:Nat} {ps:Array Tmp} {assign body:Code} {Q:AX→AF→aI→Prop} (t:Tr) (hs:t.all.length < 10000000) (hv:∀p,p∈t.all→p.val.length < 1000000) (w:Int) (hps:ps.toList.length=1) (hpn:(ps.toList.all fun p=>decide (p < n))=true)
  (hround:∀(O O1:cT) (s:Option aG) (L:List Ky) (g:Nat) (k:Ky) (c:List AV) (l:Nat),L.length < 10000000→
   W (some l) Tryz.prog n assign (t7 (fun f1 M1=>M1.get 6=some O∧W (some l) Tryz.prog n body (fun e _ N'=>e=.normal∧N'.get 6=some O1∧8≤(N'.set 6 O).next∧∀i o,(vM w s (L++[k]) (g+1) O).get i=some o→(N'.set 6 O).get i=some o) f1 (M1.set 6 O1)) (fun _ _ _=>False)) ⟨GR ps.toList [k.av] (TQ t),[]⟩ (vM8 w s L g O c))
  (hdone:∀g N O,(vM w (dQ w t.all).1 (dQ w t.all).2 g O).le N→∃N',N'.le N∧N'.get 6=none∧Q .normal ⟨TQ t,[nW 5]⟩ N'):
  W none Tryz.prog n (.rangeFunc (.tmp 17) ps assign body) Q ⟨TQ t,[]⟩ (vM5 w):=by
 refine EA (gf:=228) (lb:=[.ref [t.av],.ptr 3 0]) rfl fun fn tmps D hn=>?_
 refine (aS.le (N:=vM w none [] 0 (.raw none (.loop (fC fn tmps ps assign body D .ready none)) tmps (TQ t))) ?_ (ZS t hs hv w _ (a6z t _ _) ?_)).mono ?_
 ·exact aI.le_cons rfl (aI.le_cons rfl (aI.le_cons rfl (aI.le_cons rfl (aI.le_cons rfl (aI.le_cons rfl (aI.le_cons rfl (aI.le_nil rfl)))))))
 ·intro s L g k c hL
  refine s9 rfl hn hps hpn fun l=>?_
  refine (hround _ (.raw none (.loop (fC fn tmps ps assign body D .busy none)) tmps (TQ t)) s L g k c l hL).mono ?_
  rintro x1 f1 M1 h1
  cases x1 with
  |normal=>
   refine⟨h1.1,h1.2.mono ?_⟩
   rintro x2 f2 M2 ⟨rfl,h3,h4⟩
   exact⟨h3,rfl,h4⟩
  |exit id=>exact h1.elim
  |ret=>exact h1.elim
  |panic v=>exact h1.elim
 ·rintro e N ⟨rfl,g,hle⟩
  obtain⟨N',h1,h2,h3⟩:=hdone _ N _ hle
  exact⟨.ready,none,N',by simp,hle.2 6 _ rfl,h1,h2,h3⟩
theorem a86 (t:Tr) (hs:t.all.length < 10000000) (hv:dD t.all) (w:Int):aN Tryz.prog 185 [t.av,.int .i64 w] (ofA (ofO t.all w)):=by
 refine aT (aZ (bL t) aB) (LD _) ?_
 refine oF aF Tryz.func185 rfl (by decide) (by simp[Tryz.f185]) ?_
 have kis:=s7 t hs hv
 have kd:=a3i t (.cells [.sl 0 [] .full]) w
 unfold ofO
 cases h:eY t.all
 ·rw[h] at kis
  rw[if_neg (by simp)]
  unfold Tr.av at kis ⊢
  repeat' (first|refine zA rfl ?_|refine aA ?_|refine aJ rfl ?_|refine aD rfl kis ?_)
  exact⟨_,rfl,_,rfl,aH.tup2 aH.nil (aH.of_closed aB)⟩
 ·rw[h] at kis
  by_cases hw:w < 0
  ·have d1:decide (w < 0)=true:=by simp[hw]
   rw[if_neg (by simp[hw])]
   unfold Tr.av at kis ⊢
   repeat' (first|refine zB rfl d1 ?_|refine zA rfl ?_|refine aA ?_|refine aJ rfl ?_|refine aD rfl kis ?_)
   exact⟨_,rfl,_,rfl,aH.tup2 aH.nil (aH.of_closed aB)⟩
  ·have d1:decide (w < 0)=false:=by simp[hw]
   rw[if_pos ⟨rfl,hw⟩]
   unfold Tr.av at kis kd ⊢
   repeat' (first|refine zB rfl d1 ?_|refine zA rfl ?_|refine aA ?_|refine aJ rfl ?_|refine aD rfl kis ?_|refine cU rfl rfl (kd) ?_ ?_)
   rotate_left
   ·intro u N h
    cases h.1
   rintro u N ⟨e,hle⟩
   cases e
   repeat' (first|refine aA ?_|refine aJ rfl ?_)
   refine W.le (g:=⟨TQ t,[]⟩) (N:=⟨4,[(0,.cells [.sl 0 [] .full]),(1,.cells (kC none)),(2,.cells (kA none)),(3,.cells [DA w])]⟩) ?_ hle ?_
   ·unfold TQ
    repeat (refine AF.le_cons rfl ?_)
    exact AF.le_nil rfl
   refine lN ((aM.tokM 0 0 rfl rfl (sz':=2) (.inr rfl)).trans (aM.le (g:=⟨TQ t,[]⟩) (N:=vM5 w) ⟨rfl,fun _=>Sub.refl⟩ ?_)) ?_
   ·exact aI.le_cons rfl (aI.le_cons rfl (aI.le_cons rfl (aI.le_cons rfl (aI.le_cons rfl (aI.le_nil rfl)))))
   refine TD t hs (fun p hp=>(hv p hp).2) w rfl (by decide) ?_ ?_
   ·intro O O1 s L g k c l hL
    have lk:=aU Ky.av L
    unfold vM8 vM TQ
    repeat' (first|refine zA rfl ?_|refine aA ?_|refine aJ rfl ?_)
    refine⟨rfl,?_⟩
    repeat' (first|refine zA rfl ?_|refine aA ?_|refine aJ rfl ?_|refine zR rfl ?_|refine zP rfl rfl ?_)
    have e:AV.sl 2 ((L++[k]).map Ky.av) (.tok 4 (g+1))=.sl 2 (L.map Ky.av++[k.av]) (.tok 4 (g+1)):=by simp
    refine⟨rfl,rfl,by show 8≤9;decide,?_⟩
    have key:∀M2:aI,aI.le ⟨9,(vM w s (L++[k]) (g+1) O).objs⟩ M2→(∀j o,(vM w s (L++[k]) (g+1) O).get j=some o→M2.get j=some o):=fun M2 h j o hj=>h.2 j o hj
    refine key _ ?_
    unfold vM
    rw[e]
    exact aI.le_cons rfl (aI.le_cons rfl (aI.le_cons rfl (aI.le_cons rfl (aI.le_cons rfl (aI.le_cons rfl (aI.le_cons rfl (aI.le_nil rfl)))))))
   ·intro g N O hle2
    refine⟨⟨7,[(0,.cells [.sl 2 ((dQ w t.all).2.map Ky.av) (.tok 4 g)]),(5,l7)]⟩,aI.le_trans (aI.le_cons (i:=0) rfl (aI.le_cons (i:=5) rfl (aI.le_nil rfl))) hle2,rfl,?_⟩
    unfold TQ
    repeat' (first|refine zA rfl ?_|refine aA ?_|refine aJ rfl ?_)
    refine uH (N:=⟨_,[]⟩) rfl (aI.le_nil rfl) rfl ⟨_,rfl,_,rfl,aH.tup2 (aH.untag (rZ _)) (aH.of_closed aB)⟩
def CN (l:List Pr) (w:Int) (x:Pr):Prop:=∃y,y∈l∧y.key.path=x.key.path∧x.key.time < y.key.time∧y.key.time≤w
def MX (x:Pr):Bool:=(bW x.val).2.1
def a04 (l:List Pr) (w:Int) (x:Pr):Prop:=x.key.time≤w∧(CN l w x∨MX x=true)
noncomputable def jG (l:List Pr) (w:Int) (x:Pr):Bool:=@decide (a04 l w x) (Classical.propDecidable _)
theorem kH {l:List Pr} {w:Int} {x:Pr}:jG l w x=true↔a04 l w x:=by
 unfold jG
 exact @decide_eq_true_iff _ (Classical.propDecidable _)
def a2v (a:List Pr) (w:Int) (s:Option aG):Prop:=∀p,(∀y,y∈a→y.key.path=p∨bl y.key.path p=true)→(s=some p↔∃y,y∈a∧y.key.path=p∧y.key.time≤w)
theorem ZN (w:Int) (a b:List Pr):dQ w (a++b)=b.foldl (B3 w) (dQ w a):=by
 unfold dQ
 rw[List.foldl_append]
theorem OR {a b:List Pr} {x y:Pr} (hr:cJ (a++b)) (hx:x∈a) (hy:y∈b):x.key.path=y.key.path∨bl x.key.path y.key.path=true:=by
 have:=(List.pairwise_append.1 hr).2.2 x hx y hy
 rcases (v8 _ _).1 this with h|⟨h,_⟩
 ·exact .inr h
 ·exact .inl h
theorem SK {a:List Pr} {w:Int} {s:Option aG} {x:Pr} (hr:cJ (a++[x])) (h:a2v a w s):a2v (a++[x]) w (gC s x w).2:=by
 intro p hp
 unfold gC
 have hxp:=hp x (by simp)
 by_cases hx:w < x.key.time
 ·rw[if_pos hx]
  rw[h p (fun y hy=>hp y (by simp[hy]))]
  constructor
  ·rintro⟨y,hy,h1,h2⟩
   exact⟨y,by simp[hy],h1,h2⟩
  ·rintro⟨y,hy,h1,h2⟩
   rcases List.mem_append.1 hy with hy|hy
   ·exact⟨y,hy,h1,h2⟩
   ·simp at hy
    subst hy
    omega
 ·rw[if_neg hx]
  constructor
  ·intro e
   have e:x.key.path=p:=Option.some.inj e
   exact⟨x,by simp,e,by omega⟩
  ·rintro⟨y,hy,h1,h2⟩
   show some x.key.path=some p
   congr 1
   rcases List.mem_append.1 hy with hy|hy
   ·rcases OR hr hy (y:=x) (by simp) with h3|h3
    ·rw[←h3,h1]
    ·rw[h1] at h3
     rcases hxp with h4|h4
     ·exact h4
     ·have:=JX h3
      rw[h4] at this
      cases this
   ·simp at hy
    rw[←hy]
    exact h1
theorem OW (w:Int):∀(b a:List Pr),cJ (a++b)→a2v a w (dQ w a).1→(dQ w a).2=(a.filter (jG (a++b) w)).map (·.key)→a2v (a++b) w (dQ w (a++b)).1∧(dQ w (a++b)).2=((a++b).filter (jG (a++b) w)).map (·.key)
 |[],a,hr,hs,he=>by
  rw[List.append_nil] at*
  exact⟨hs,he⟩
 |x::b,a,hr,hs,he=>by
  have e:a++x::b=(a++[x])++b:=by simp
  have hr1:cJ (a++[x]):=by
   rw[e] at hr
   exact (List.pairwise_append.1 hr).1
  have h1:dQ w (a++[x])=B3 w (dQ w a) x:=by rw[ZN];rfl
  have hs1:=SK hr1 hs
  have hk:(gC (dQ w a).1 x w).1=!jG (a++x::b) w x:=by
   rw[Bool.eq_iff_iff]
   simp only[Bool.not_eq_true',←Bool.not_eq_true,kH]
   unfold gC
   by_cases hx:w < x.key.time
   ·rw[if_pos hx]
    simp only[true_iff]
    rintro⟨h2,_⟩
    omega
   ·rw[if_neg hx]
    have hq:=hs x.key.path (fun y hy=>OR hr1 hy (by simp))
    simp only[Bool.and_eq_true,Bool.not_eq_true',decide_eq_false_iff_not,hq]
    have hn:CN (a++x::b) w x↔∃y,y∈a∧y.key.path=x.key.path∧y.key.time≤w:=by
     constructor
     ·rintro⟨y,hy,h2,h3,h4⟩
      rcases List.mem_append.1 hy with hy|hy
      ·exact⟨y,hy,h2,h4⟩
      ·exfalso
       rcases List.mem_cons.1 hy with rfl|hy
       ·omega
       ·have:=(List.pairwise_cons.1 (List.pairwise_append.1 hr).2.1).1 y hy
        rcases (v8 _ _).1 this with h5|⟨_,h5⟩
        ·rw[h2,gN] at h5
         cases h5
        ·omega
     ·rintro⟨y,hy,h2,h4⟩
      refine⟨y,by simp[hy],h2,?_,h4⟩
      have:=(List.pairwise_append.1 hr1).2.2 y hy x (by simp)
      rcases (v8 _ _).1 this with h5|⟨_,h5⟩
      ·rw[h2,gN] at h5
       cases h5
      ·exact h5
    unfold a04
    rw[hn]
    unfold MX
    constructor
    ·rintro⟨h2,h3⟩ ⟨_,h4|h4⟩
     ·exact h2 h4
     ·rw[h3] at h4
      cases h4
    ·intro h2
     refine⟨fun h3=>h2 ⟨by omega,.inl h3⟩,?_⟩
     cases hg:(bW x.val).2.1
     ·rfl
     ·exact absurd ⟨by omega,.inr hg⟩ h2
  rw[e] at hr ⊢
  refine OW w b (a++[x]) hr (by rw[h1];exact hs1) ?_
  rw[h1,←e]
  unfold B3
  rw[hk,List.filter_append,List.map_append,←he]
  cases hd:jG (a++x::b) w x
  ·simp[hd]
  ·simp[hd]
theorem C9 {l:List Pr} (hr:cJ l) (w:Int):(dQ w l).2=(l.filter (jG l w)).map (·.key):=
 (OW w l [] hr (fun p _=>by simp[dQ]) rfl).2
noncomputable def mQ (l:List Pr) (w:Int):List Pr:=l.filter fun x=>!jG l w x
theorem EL {l:List Pr} (hr:cJ l) (k:Ky):dJ l k=l.filter fun x=>!decide (x.key=k):=by
 induction l with
 |nil=>rfl
 |cons q r ih=>
  obtain⟨h1,h2⟩:=List.pairwise_cons.1 hr
  simp only[dJ]
  by_cases hq:bG q.key k=true
  ·rw[if_pos hq,ih h2,List.filter_cons,if_pos]
   have:q.key≠k:=by
    rintro rfl
    rw[fU] at hq
    cases hq
   simp[this]
  ·rw[if_neg hq]
   have hrest:r.filter (fun x=>!decide (x.key=k))=r:=by
    refine List.filter_eq_self.2 fun x hx=>?_
    have:x.key≠k:=by
     rintro rfl
     exact hq (h1 x hx)
    simp[this]
   by_cases he:q.key=k
   ·rw[if_pos he,List.filter_cons,if_neg (by simp[he]),hrest]
   ·rw[if_neg he,List.filter_cons,if_pos (by simp[he]),hrest]
theorem sH:∀(ks:List Ky) {l:List Pr},cJ l→ks.foldl dJ l=l.filter fun x=>!decide (x.key∈ks)
 |[],l,_=>by
  show l=_
  exact (List.filter_eq_self.2 (by simp)).symm
 |k::ks,l,hr=>by
  rw[List.foldl_cons,sH ks (zD hr),EL hr,List.filter_filter]
  congr 1
  funext x
  by_cases h1:x.key=k<;>by_cases h2:x.key∈ks<;>simp[h1,h2]
  all_goals (first|(subst h1;simp[h2])|simp_all)
theorem RF {l:List Pr} (hr:cJ l) (w:Int):(dQ w l).2.foldl dJ l=mQ l w:=by
 rw[sH _ hr,C9 hr]
 unfold mQ
 refine List.filter_congr fun x hx=>?_
 congr 1
 rw[Bool.eq_iff_iff,decide_eq_true_iff]
 constructor
 ·intro h
  obtain⟨y,hy,he⟩:=List.mem_map.1 h
  rw[List.mem_filter] at hy
  have:=YT hr hy.1 hx he
  rw[←this]
  exact hy.2
 ·intro h
  exact List.mem_map.2 ⟨x,List.mem_filter.2 ⟨hx,h⟩,rfl⟩
theorem FE {l:List Pr} {w:Int} {x:Pr}:x∈mQ l w↔x∈l∧¬a04 l w x:=by
 unfold mQ
 rw[List.mem_filter]
 simp only[Bool.not_eq_true',←Bool.not_eq_true,kH]
theorem P6 (l:List Pr) (w:Int):(mQ l w).Sublist l:=List.filter_sublist
theorem XZ {l:List Pr} (hr:cJ l) (w:Int):cJ (mQ l w):=hr.sublist (P6 l w)
theorem OC {α:Type} (q:α→Bool) (l:List α):(l.filter fun x=>!q x).length+(l.filter q).length=l.length:=by
 induction l with
 |nil=>rfl
 |cons x r ih=>
  rw[List.filter_cons,List.filter_cons]
  cases q x
  ·simp
   omega
  ·simp
   omega
theorem OQ {l:List Pr} (hr:cJ l) (w:Int):(mQ l w).length+(dQ w l).2.length=l.length:=by
 rw[C9 hr,List.length_map]
 exact OC _ l
theorem VZ {l:List Pr} (h:eY l=true) (w:Int):eY (mQ l w)=true:=PI fun p hp=>AS h (FE.1 hp).1
theorem WO {l:List Pr} (h:dD l) (w:Int):dD (mQ l w):=fun p hp=>h p (FE.1 hp).1
noncomputable def kB (t:Tr) (ks:List Ky):Tr:=ks.foldl wH t
theorem uX:∀(ks:List Ky) (t:Tr),t.all.length < 10000000→(kB t ks).all=ks.foldl dJ t.all∧(kB t ks).all.length≤t.all.length
 |[],t,h=>⟨rfl,Nat.le_refl _⟩
 |k::r,t,h=>by
  have h1:(wH t k).all=dJ t.all k:=SY h
  have h2:=(v6 t.all k).length_le
  obtain⟨h3,h4⟩:=uX r (wH t k) (by rw[h1];omega)
  unfold kB at h3 h4 ⊢
  rw[h1] at h3 h4
  exact⟨h3,by simp only[List.foldl_cons];omega⟩
theorem H0 {t:Tr} {l:List Ky} {i:Nat} {x:Ky} (ht:l.take (i+1)=l.take i++[x]):kB t (l.take (i+1))=wH (kB t (l.take i)) x:=by
 unfold kB
 rw[ht,List.foldl_append]
 rfl
noncomputable def VK (t:Tr) (w:Int):Tr:=kB t (dQ w t.all).2
theorem TW {t:Tr} (h:t.all.length < 10000000) (w:Int):(VK t w).all=mQ t.all w:=by
 unfold VK
 rw[(uX _ t h).1]
 exact RF (l:=t.all) t.rise w
def QW (l:List Pr) (w:Int):Bool:=eY l&&!decide (w < 0)
theorem a1q {l:List Pr} {w:Int} (h:QW l w=true):ofO l w=((dQ w l).2,0):=by
 unfold QW at h
 simp at h
 unfold ofO
 rw[if_pos ⟨h.1,by omega⟩]
theorem a4n {l:List Pr} {w:Int} (h:QW l w=false):ofO l w=([],1):=by
 unfold QW at h
 unfold ofO
 rw[if_neg]
 rintro⟨h1,h2⟩
 rw[h1] at h
 simp at h
 omega
noncomputable def ZC (t:Tr) (w:Int):AV:=if QW t.all w=true then .tup [(VK t w).av,.int .i64 ((dQ w t.all).2.length:Int),.int .i64 0] else .tup [.nilptr,.int .i64 0,.int .i64 1]
theorem GK (t:Tr) (w:Int):aP (ZC t w):=by
 unfold ZC
 split
 ·exact aW (cD (bL _) aB aB)
 ·exact aW (cD dX aB aB)
noncomputable def TU (t:Tr) (w:Int) (l:List Ky) (i:Nat):AF:=⟨[(0,t.av),(7,.sl 2 (l.map Ky.av) .none),(20,.sl 2 (l.map Ky.av) .none),(21,.int .i64 (l.length:Int)),(22,.int .i64 (i:Int))],[]⟩
theorem XV (w:Int) (l:List Pr) (hr:cJ l):(dQ w l).2.length≤l.length:=by
 have:=OQ hr w
 omega
theorem a6b (t:Tr) (hs:t.all.length < 1000000) (hv:dD t.all) (w:Int):aN Tryz.prog 147 [t.av,.int .i64 w] (ZC t w):=by
 refine aT (aZ (bL t) aB) (GK _ _) ?_
 refine aC aF Tryz.func147 rfl (by decide) (by simp[Tryz.f147]) ?_
 have ko:=a86 t (by omega) hv w
 unfold ZC
 cases h:QW t.all w
 ·rw[a4n h] at ko
  rw[if_neg (by simp)]
  unfold ofA at ko
  unfold Tr.av at ko ⊢
  repeat' (first|refine zA rfl ?_|refine aA ?_|refine aJ rfl ?_|refine aD rfl ko ?_)
  exact⟨rfl,_,rfl,_,rfl,aH.of_closed (aW (cD dX aB aB))⟩
 ·rw[a1q h] at ko
  rw[if_pos rfl]
  have hl:=XV w t.all t.rise
  unfold VK
  generalize (dQ w t.all).2=l at ko hl ⊢
  have la:=aU Ky.av l
  have hR:=bL (kB t l)
  have hcl:=rZ l
  unfold ofA at ko
  unfold Tr.av at ko ⊢
  repeat' (first|refine zI rfl la ?_|refine zA rfl ?_|refine aA ?_|refine aJ rfl ?_|refine aD rfl ko ?_)
  refine aX l.length (fun i f N=>N=⟨0,[]⟩∧f=TU (kB t (l.take i)) w l i) (Nat.zero_le _) ⟨rfl,rfl⟩ (aM.le ?_ (aI.le_nil rfl)) ?_
  ·unfold TU Tr.av
   repeat (refine AF.le_cons rfl ?_)
   exact AF.le_nil rfl
  rintro i f N hi ⟨rfl,rfl⟩
  unfold TU
  by_cases g1:i < l.length
  ·have d1:decide ((i:Int) < (l.length:Int))=true:=by simp;omega
   have hx:l[i]? =some l[i]:=List.getElem?_eq_getElem g1
   have fi:=aQ (i:=i) (by omega)
   have ht:=b7 hx
   generalize l[i]=x at hx ht
   have hl2:=(uX (l.take i) t (by omega)).2
   have kp:=WW (t:=kB t (l.take i)) (k:=x) (by omega)
   rw[←H0 ht] at kp
   generalize kB t (l.take i)=u at kp
   generalize hU:kB t (l.take (i+1))=U at kp
   have hUc:=bL U
   unfold Tr.av at kp ⊢
   repeat' (first|refine zB rfl d1 ?_|refine zI rfl fi ?_|refine zA rfl ?_|refine aA ?_|refine aJ rfl ?_|refine aD rfl kp ?_|refine zX rfl (c7 hx) ?_)
   refine⟨g1,TU U w l (i+1),⟨0,[]⟩,⟨rfl,by rw[←hU];rfl⟩,aM.cut (k:=0) (t:=(TU U w l (i+1)).t) (l:=[]) (Nat.le_refl _) (Nat.zero_le _) rfl ⟨?_,?_,?_,?_,?_,trivial⟩ trivial⟩
   ·exact aH.of_closed hUc
   ·exact aH.of_closed hcl
   ·exact aH.of_closed hcl
   ·exact aH.of_closed aB
   ·exact aH.of_closed aB
  ·have d1:decide ((i:Int) < (l.length:Int))=false:=by simp;omega
   obtain rfl:i=l.length:=by omega
   rw[List.take_length]
   unfold Tr.av at hR ⊢
   repeat' (first|refine zB rfl d1 ?_|refine zI rfl la ?_|refine zA rfl ?_|refine aA ?_|refine aJ rfl ?_)
   exact⟨rfl,_,rfl,_,rfl,aH.of_closed (aW (cD hR aB aB))⟩
def XB (l:List Pr) (i:Nat) (w:Int) (j:Nat):AF:=⟨[(0,iQ l),(1,.int .i64 (i:Int)),(2,.int .i64 w),(7,.ptr 0 0),(8,.int .i64 (j:Int))],[]⟩
theorem UE (l:List Pr) (i:Nat) (x:Pr) (w:Int) (hl:l.length < 1000000) (hx:l[i]? =some x) (hv:x.val.length < 1000000):aN Tryz.prog 190 [iQ l,.int .i64 (i:Int),.int .i64 w] (.bool (jG l w x)):=by
 refine aT (cD (c6 l) aB aB) (aL) ?_
 refine aC aF Tryz.func190 rfl (by decide) (by simp[Tryz.f190]) ?_
 have la:=aU Pr.av l
 have kr:=A5 x.val hv
 unfold rmA at kr
 have hcl:=c6 l
 have hil:=(List.getElem?_eq_some_iff.1 hx).1
 by_cases h0:w < x.key.time
 ·have d0:decide (w < x.key.time)=true:=by simp[h0]
  have e:jG l w x=false:=by
   rw[Bool.eq_false_iff]
   intro h
   have:=(kH.1 h).1
   omega
  rw[e]
  unfold iQ
  repeat' (first|refine zB rfl d0 ?_|refine zA rfl ?_|refine aA ?_|refine aJ rfl ?_|refine zX rfl (c7 hx) ?_)
  exact⟨rfl,_,rfl,_,rfl,aH.of_closed aL⟩
 ·have d0:decide (w < x.key.time)=false:=by simp;omega
  unfold iQ
  repeat' (first|refine zB rfl d0 ?_|refine zA rfl ?_|refine aA ?_|refine aJ rfl ?_|refine zX rfl (c7 hx) ?_)
  refine aX l.length (fun j f N=>N=⟨1,[(0,.cells [.str x.key.path,.int .i64 x.key.time])]⟩∧¬CN (l.take j) w x∧f=XB l i w j) (Nat.zero_le _) ⟨rfl,by rintro⟨y,hy,_⟩;simp at hy,rfl⟩ (aM.le ?_ (aI.le_cons rfl (aI.le_nil rfl))) ?_
  ·unfold XB iQ
   repeat (refine AF.le_cons rfl ?_)
   exact AF.le_nil rfl
  rintro j f N hj ⟨rfl,hinv,rfl⟩
  unfold XB iQ
  by_cases h1:j < l.length
  ·have d1:decide ((j:Int) < (l.length:Int))=true:=by simp;omega
   have hy:l[j]? =some l[j]:=List.getElem?_eq_getElem h1
   have fi:=aQ (i:=j) (by omega)
   have ht:=b7 hy
   have hm:=List.getElem_mem h1
   have hnx:¬CN [l[j]] w x→¬CN (l.take (j+1)) w x:=by
    rintro h2 ⟨y,hy2,h3⟩
    rw[ht] at hy2
    rcases List.mem_append.1 hy2 with hy2|hy2
    ·exact hinv ⟨y,hy2,h3⟩
    ·exact h2 ⟨y,hy2,h3⟩
   generalize l[j]=y at*
   have step:¬CN [y] w x→XB l i w (j+1)=XB l i w (j+1):=fun _=>rfl
   by_cases g1:y.key.path=x.key.path
   ·have c1:(y.key.path==x.key.path)=true:=by simp[g1]
    by_cases g2:y.key.time≤w
    ·have c2:decide (y.key.time≤w)=true:=by simp[g2]
     by_cases g3:x.key.time < y.key.time
     ·have c3:decide (x.key.time < y.key.time)=true:=by simp[g3]
      have e:jG l w x=true:=kH.2 ⟨by omega,.inl ⟨y,hm,g1,g3,g2⟩⟩
      rw[e]
      repeat' (first|refine zB rfl (by first|exact d1|exact c1|exact c2|exact c3) ?_|refine zI rfl la ?_|refine zA rfl ?_|refine aA ?_|refine aJ rfl ?_|refine zX rfl (c7 hy) ?_|refine aO mixed [0,1,2,3,4,5,6,7,8,9,10,11,16,12,13,14,15,17,18,19,20,21,22,23,24,25,26,27,28,29] [.P,.P,.R,.R,.R,.R,.R,.R,.P,.P,.P,.P,.R,.R,.R,.R,.P,.P,.P,.P,.P,.P,.R,.R,.R,.R,.R,.R,.P,.P] rfl rfl (by kernel_rfl) ?_)
      exact⟨rfl,_,rfl,_,rfl,aH.of_closed aL⟩
     ·have c3:decide (x.key.time < y.key.time)=false:=by simp;omega
      have hn:=hnx (by rintro⟨z,hz,_,h4,_⟩;simp at hz;subst hz;omega)
      repeat' (first|refine zB rfl (by first|exact d1|exact c1|exact c2|exact c3) ?_|refine zI rfl (by first|exact la|exact fi) ?_|refine zA rfl ?_|refine aA ?_|refine aJ rfl ?_|refine zX rfl (c7 hy) ?_|refine aO mixed [0,1,2,3,4,5,6,7,8,9,10,11,16,12,13,14,15,17,18,19,20,21,22,23,24,25,26,27,28,29] [.P,.P,.R,.R,.R,.R,.R,.R,.P,.P,.P,.P,.R,.R,.R,.R,.P,.P,.P,.P,.P,.P,.R,.R,.R,.R,.R,.R,.P,.P] rfl rfl (by kernel_rfl) ?_)
      refine⟨h1,XB l i w (j+1),_,⟨rfl,hn,rfl⟩,aM.le ?_ (aI.le_cons rfl (aI.le_nil rfl))⟩
      unfold XB iQ
      repeat (refine AF.le_cons rfl ?_)
      exact AF.le_nil rfl
    ·have c2:decide (y.key.time≤w)=false:=by simp;omega
     have hn:=hnx (by rintro⟨z,hz,_,_,h4⟩;simp at hz;subst hz;omega)
     repeat' (first|refine zB rfl (by first|exact d1|exact c1|exact c2) ?_|refine zI rfl (by first|exact la|exact fi) ?_|refine zA rfl ?_|refine aA ?_|refine aJ rfl ?_|refine zX rfl (c7 hy) ?_|refine aO mixed [0,1,2,3,4,5,6,7,8,9,10,11,16,12,13,14,15,17,18,19,20,21,22,23,24,25,26,27,28,29] [.P,.P,.R,.R,.R,.R,.R,.R,.P,.P,.P,.P,.R,.R,.R,.R,.P,.P,.P,.P,.P,.P,.R,.R,.R,.R,.R,.R,.P,.P] rfl rfl (by kernel_rfl) ?_)
     refine⟨h1,XB l i w (j+1),_,⟨rfl,hn,rfl⟩,aM.le ?_ (aI.le_cons rfl (aI.le_nil rfl))⟩
     unfold XB iQ
     repeat (refine AF.le_cons rfl ?_)
     exact AF.le_nil rfl
   ·have c1:(y.key.path==x.key.path)=false:=by simp[g1]
    have hn:=hnx (by rintro⟨z,hz,h4,_⟩;simp at hz;subst hz;exact g1 h4)
    repeat' (first|refine zB rfl (by first|exact d1|exact c1) ?_|refine zI rfl (by first|exact la|exact fi) ?_|refine zA rfl ?_|refine aA ?_|refine aJ rfl ?_|refine zX rfl (c7 hy) ?_|refine aO mixed [0,1,2,3,4,5,6,7,8,9,10,11,16,12,13,14,15,17,18,19,20,21,22,23,24,25,26,27,28,29] [.P,.P,.R,.R,.R,.R,.R,.R,.P,.P,.P,.P,.R,.R,.R,.R,.P,.P,.P,.P,.P,.P,.R,.R,.R,.R,.R,.R,.P,.P] rfl rfl (by kernel_rfl) ?_)
    refine⟨h1,XB l i w (j+1),_,⟨rfl,hn,rfl⟩,aM.le ?_ (aI.le_cons rfl (aI.le_nil rfl))⟩
    unfold XB iQ
    repeat (refine AF.le_cons rfl ?_)
    exact AF.le_nil rfl
  ·have d1:decide ((j:Int) < (l.length:Int))=false:=by simp;omega
   obtain rfl:j=l.length:=by omega
   rw[List.take_length] at hinv
   have e:jG l w x=(bW x.val).2.1:=by
    rw[Bool.eq_iff_iff,kH]
    constructor
    ·rintro⟨_,h2|h2⟩
     ·exact absurd h2 hinv
     ·exact h2
    ·intro h2
     exact⟨by omega,.inr h2⟩
   rw[e]
   repeat' (first|refine zB rfl d1 ?_|refine zI rfl la ?_|refine zA rfl ?_|refine aA ?_|refine aJ rfl ?_|refine aD rfl kr ?_|refine zX rfl (c7 hx) ?_)
   exact⟨rfl,_,rfl,_,rfl,aH.of_closed aL⟩
end Go.Proofs.YthnhbmlefiafaaaGreatDoor
