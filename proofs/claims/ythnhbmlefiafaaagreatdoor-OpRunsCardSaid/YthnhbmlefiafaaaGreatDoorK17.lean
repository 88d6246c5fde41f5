/- Parts of the proof, one behind the other. No further condition. -/
import Derived.Test.YthnhbmlefiafaaaGreatDoorK16
set_option linter.unusedVariables false
set_option linter.unusedSimpArgs false
set_option maxRecDepth 100000
set_option maxHeartbeats 8000000
namespace Go.Proofs.YthnhbmlefiafaaaGreatDoor
open Go.Ab
theorem jM (l:List Pr) (p:Pr):l.length≤(cV l p).length∧(cV l p).length≤l.length+1∧1≤(cV l p).length:=by
 induction l with
 |nil=>simp[cV]
 |cons q r ih=>
  simp only[cV]
  split
  ·simp;omega
  ·split<;>simp
theorem oI (l:List Pr) (k:Ky):(dJ l k).length≤l.length:=(v6 l k).length_le
theorem X6 {h:Nat} {l:Vt (h+1)} {p:Pr} (hv:lE (h+1) l) (hr:cJ (bE (h+1) l)):
  ∃(a:List (Vt h)) (v:Vt h) (b:List (Vt h)),l.kids=a++v::b∧lE h v∧cJ (bE h v)∧bK l.kids p.key=a.length∧iD (h+1) l p=(bB (a++(iD h v p++b)):List (List (Vt h))):=by
 obtain⟨h1,h2,h3⟩:=hv
 have h0:l.kids≠[]:=by intro he;rw[he] at h1;simp at h1
 obtain⟨a,v,b,e1,e2,e3,e4,e5⟩:=kI h0 h3 hr p.key
 have hv:lE h v:=h3 v (by rw[e1];simp)
 have hall:bE (h+1) l=bF h a++(bE h v++bF h b):=by
  show bF h l.kids=_
  rw[e1,bS,eE]
 refine⟨a,v,b,e1,hv,?_,e2,?_⟩
 ·rw[hall] at hr
  exact m6 hr
 ·show bB (eD l.kids (bK l.kids p.key) 1 (match l.kids[bK l.kids p.key]? with
   |some kid=>iD h kid p
   |none=>[]))=_
  rw[e3,e2]
  congr 1
  simp only
  have:eD l.kids a.length 1 (iD h v p)=eD (a++v::b) a.length 1 (iD h v p):=by rw[←e1]
  rw[this,tZ]
theorem EM:∀(h:Nat) (v:Vt h) (p:Pr),lE h v→cJ (bE h v)→∀x,x∈iD h v p→lE h x
 |0,l,p,hv,hr=>by
  intro x hx
  have hx':x.row∈bB (cV l.row p):=hx
  have h1:2≤l.row.length:=hv.1
  have h2:l.row.length≤4:=hv.2
  have h3:=jM l.row p
  have h4:=pP (by omega) (by omega) x.row hx'
  exact⟨h4.1,h4.2.1⟩
 |h+1,l,p,hv,hr=>by
  intro x hx
  obtain⟨a,v,b,e1,e2,e3,_,e4⟩:=X6 (p:=p) hv hr
  rw[e4] at hx
  have hx':x.kids∈bB (a++(iD h v p++b)):=hx
  obtain⟨h1,h2,h3⟩:=hv
  rw[e1] at h1 h2
  simp at h1 h2
  have h5:=xA h v p (jC e2) e3
  have h4:=pP (l:=a++(iD h v p++b)) (by simp;omega) (by simp;omega) x.kids hx'
  refine⟨h4.1,h4.2.1,fun k hk=>?_⟩
  rcases List.mem_append.1 (h4.2.2 k hk) with h6|h6
  ·exact h3 k (by rw[e1];simp[h6])
  ·rcases List.mem_append.1 h6 with h6|h6
   ·exact EM h v p e2 e3 k h6
   ·exact h3 k (by rw[e1];simp[h6])
theorem Y9 {h:Nat} {v:Vt h} {p:Pr} (hv:ML h v) (hr:cJ (bE h v)):
  (∃x,iD h v p=[x]∧ML h x∧bE h x=cV (bE h v) p)∨(∃x y,iD h v p=[x,y]∧lE h x∧lE h y∧bE h x++bE h y=cV (bE h v) p):=by
 obtain⟨h1,h2,h3⟩:=xA h v p hv hr
 have hok:∀x y,iD h v p=[x,y]→lE h x∧lE h y:=by
  intro x y he
  cases h with
  |zero=>
   have he':bB (cV v.row p)=[x.row,y.row]:=he
   have h4:=jM v.row p
   have h5:v.row.length≤4:=hv
   unfold bB at he'
   split at he'
   ·simp at he'
   ·rename_i h6
    simp at he'
    obtain⟨e1,e2⟩:=he'
    have l1:x.row.length=(cV v.row p).length/2:=by rw[←e1];simp;omega
    have l2:y.row.length=(cV v.row p).length - (cV v.row p).length/2:=by rw[←e2];simp
    exact⟨⟨by show 2≤x.row.length;omega,by show x.row.length≤4;omega⟩,⟨by show 2≤y.row.length;omega,by show y.row.length≤4;omega⟩⟩
  |succ h=>
   have:=EM (h+1) v p hv hr
   exact⟨this x (by rw[he];simp),this y (by rw[he];simp)⟩
 have hone:∀x,iD h v p=[x]→ML h x:=by
  intro x he
  cases h with
  |zero=>
   have he':bB (cV v.row p)=[x.row]:=he
   unfold bB at he'
   split at he'
   ·rename_i h6
    simp at he'
    show x.row.length≤4
    rw[←he'];exact h6
   ·simp at he'
  |succ h=>exact EM (h+1) v p hv hr x (by rw[he];simp)
 cases hp:iD h v p with
 |nil=>rw[hp] at h3;simp at h3
 |cons x r=>
  cases r with
  |nil=>
   rw[hp] at h1
   exact .inl ⟨x,rfl,hone x hp,by simpa [bF] using h1⟩
  |cons y s=>
   cases s with
   |nil=>
    rw[hp] at h1
    exact .inr ⟨x,y,rfl,(hok x y hp).1,(hok x y hp).2,by simpa [bF] using h1⟩
   |cons z s=>rw[hp] at h2;simp at h2
def okD:(h:Nat)→Vt h→Prop
 |0,l=>1≤l.row.length∧l.row.length≤4
 |h+1,l=>1≤l.kids.length∧l.kids.length≤4∧∀k,k∈l.kids→lE h k
theorem JK:∀(h:Nat) (a b:Vt h),bF h (eQ h a b)=bE h a++bE h b
 |0,a,b=>wK _
 |h+1,a,b=>(vZ _).trans (bS _ _)
theorem F2:∀(h:Nat) (a b:Vt h),okD h a→okD h b→3≤fL h a+fL h b→∀x,x∈eQ h a b→lE h x
 |0,a,b,ha,hb,hs=>by
  intro x hx
  have hx':x.row∈bB (a.row++b.row):=hx
  have a1:a.row.length≤4:=ha.2
  have b1:b.row.length≤4:=hb.2
  have hs':3≤a.row.length+b.row.length:=hs
  have h4:=pP (l:=a.row++b.row) (by simp;omega) (by simp;omega) x.row hx'
  exact⟨h4.1,h4.2.1⟩
 |h+1,a,b,ha,hb,hs=>by
  intro x hx
  have hx':x.kids∈bB (a.kids++b.kids):=hx
  have a1:a.kids.length≤4:=ha.2.1
  have b1:b.kids.length≤4:=hb.2.1
  have hs':3≤a.kids.length+b.kids.length:=hs
  have h4:=pP (l:=a.kids++b.kids) (by simp;omega) (by simp;omega) x.kids hx'
  refine⟨h4.1,h4.2.1,fun k hk=>?_⟩
  rcases List.mem_append.1 (h4.2.2 k hk) with h6|h6
  ·exact ha.2.2 k h6
  ·exact hb.2.2 k h6
theorem uB (h:Nat) (a b:Vt h) (hs:fL h a+fL h b≤5):(eQ h a b).length=if fL h a+fL h b≤4 then 1 else 2:=by
 cases h with
 |zero=>
  show (bB (a.row++b.row)).length=_
  rw[gG,List.length_append]
  rfl
 |succ h=>
  show (bB (a.kids++b.kids)).length=_
  rw[gG,List.length_append]
  rfl
theorem ON {h:Nat} {v:Vt h} (hv:lE h v):okD h v:=by
 cases h with
 |zero=>exact⟨by have:2≤v.row.length:=hv.1;omega,hv.2⟩
 |succ h=>exact⟨by have:2≤v.kids.length:=hv.1;omega,hv.2⟩
theorem P4 {h:Nat} {v:Vt h} (hv:okD h v) (h2:2≤fL h v):lE h v:=by
 cases h with
 |zero=>exact⟨h2,hv.2⟩
 |succ h=>exact⟨h2,hv.2⟩
theorem tN {h:Nat} {v:Vt h} (hv:lE h v):2≤fL h v∧fL h v≤4:=by
 cases h with
 |zero=>exact⟨hv.1,hv.2⟩
 |succ h=>exact⟨hv.1,hv.2.1⟩
theorem IU {h:Nat} {v:Vt h} (hv:okD h v):1≤fL h v∧fL h v≤4:=by
 cases h with
 |zero=>exact⟨hv.1,hv.2⟩
 |succ h=>exact⟨hv.1,hv.2.1⟩
theorem DJ {h:Nat} {l:Vt (h+1)} {k:Ky} (hv:lE (h+1) l) (hr:cJ (bE (h+1) l)):
  ∃(a:List (Vt h)) (v:Vt h) (b:List (Vt h)),l.kids=a++v::b∧bK l.kids k=a.length∧lE h v∧cJ (bE h v)∧(∀x,x∈bF h a→bG x.key k=true)∧(∀x,x∈bF h b→bG k x.key=true)∧
   ((2≤fL h (bC h v k)∧bC (h+1) l k=(a++(bC h v k::b):List (Vt h)))∨
    (¬2≤fL h (bC h v k)∧∃c y,a=c++[y]∧bC (h+1) l k=(c++(eQ h y (bC h v k)++b):List (Vt h)))∨
    (¬2≤fL h (bC h v k)∧a=[]∧∃y c,b=y::c∧bC (h+1) l k=(eQ h (bC h v k) y++c:List (Vt h)))):=by
 obtain⟨h1,h2,h3⟩:=hv
 have h0:l.kids≠[]:=by intro he;rw[he] at h1;simp at h1
 obtain⟨a,v,b,e1,e2,e3,e4,e5⟩:=kI h0 h3 hr k
 have hv:lE h v:=h3 v (by rw[e1];simp)
 have hall:bE (h+1) l=bF h a++(bE h v++bF h b):=by
  show bF h l.kids=_
  rw[e1,bS,eE]
 refine⟨a,v,b,e1,e2,hv,?_,e4,e5,?_⟩
 ·rw[hall] at hr
  exact m6 hr
 ·have hd:bC (h+1) l k=YW l.kids a.length (bC h v k):=by
   rw[bC,e3,e2]
  rw[hd]
  generalize bC h v k=kid
  unfold YW
  by_cases hs:2≤fL h kid
  ·refine .inl ⟨hs,?_⟩
   rw[if_pos hs,e1]
   exact tZ
  ·refine .inr ?_
   rw[if_neg hs]
   by_cases ha:a=[]
   ·subst ha
    refine .inr ⟨hs,rfl,?_⟩
    cases b with
    |nil=>rw[e1] at h1;simp at h1
    |cons y c=>
     refine⟨y,c,rfl,?_⟩
     rw[if_neg (by simp),e1]
     rfl
   ·refine .inl ⟨hs,a.dropLast,a.getLast ha,(List.dropLast_concat_getLast ha).symm,?_⟩
    have hpos:0 < a.length:=List.length_pos_iff.2 ha
    rw[if_pos hpos]
    have e6:l.kids[a.length - 1]? =some (a.getLast ha):=by
     rw[e1,List.getElem?_append_left (by omega),List.getLast_eq_getElem,List.getElem?_eq_getElem]
    rw[e6]
    simp only
    rw[e1]
    unfold eD
    have e7:a.length - 1+2=a.length+1:=by omega
    rw[e7,List.take_append_of_le_length (by omega),←List.dropLast_eq_take]
    congr 2
    rw[List.drop_append]
    simp
theorem oE:∀(h:Nat) (v:Vt h) (k:Ky),ML h v→cJ (bE h v)→bE h (bC h v k)=dJ (bE h v) k∧(lE h v→okD h (bC h v k))∧fL h (bC h v k)≤fL h v
 |0,l,k,hv,hr=>by
  refine⟨rfl,fun h=>?_,oI _ _⟩
  have h1:2≤l.row.length:=h.1
  have h2:l.row.length≤4:=h.2
  have h3:=SX l.row k
  have h4:=oI l.row k
  exact⟨by show 1≤(dJ l.row k).length;omega,by show (dJ l.row k).length≤4;omega⟩
 |h+1,l,k,hv,hr=>by
  obtain⟨a,v,b,e1,e2,e3,e4,e5,e6,e7⟩:=DJ (k:=k) hv hr
  obtain⟨i1,i2,i3⟩:=oE h v k (jC e3) e4
  have i2:=i2 e3
  have hall:bE (h+1) l=bF h a++(bE h v++bF h b):=by
   show bF h l.kids=_
   rw[e1,bS,eE]
  have hgoal:dJ (bE (h+1) l) k=bF h a++(bE h (bC h v k)++bF h b):=by
   rw[hall,JO e5,FN e6,i1]
  obtain⟨h1,h2,h3⟩:=hv
  rw[e1] at h1 h2
  simp at h1 h2
  have hsz:fL (h+1) l=a.length+(b.length+1):=by
   show l.kids.length=_
   rw[e1];simp
  have hok:∀x,x∈a∨x∈b→lE h x:=by
   intro x hx
   refine h3 x ?_
   rw[e1]
   rcases hx with hx|hx<;>simp[hx]
  have hd:=IU i2
  rcases e7 with ⟨hs,hd1⟩|⟨hs,c,y,rfl,hd1⟩|⟨hs,rfl,y,c,rfl,hd1⟩
  ·rw[hd1,hgoal,hsz]
   refine⟨?_,fun _=>⟨?_,?_,?_⟩,?_⟩
   ·show bF h (a++(bC h v k::b))=_
    rw[bS,eE]
   ·show 1≤(a++(bC h v k::b)).length
    simp;omega
   ·show (a++(bC h v k::b)).length≤4
    simp;omega
   ·intro x hx
    have hx':x∈a++(bC h v k::b):=hx
    simp at hx'
    rcases hx' with hx'|rfl|hx'
    ·exact hok x (.inl hx')
    ·exact P4 i2 hs
    ·exact hok x (.inr hx')
   ·show (a++(bC h v k::b)).length≤_
    simp
  ·have hy:=ON (hok y (.inl (by simp)))
   have hys:=tN (hok y (.inl (by simp)))
   have hj:=F2 h y (bC h v k) hy i2 (by omega)
   have hjl:=uB h y (bC h v k) (by omega)
   have hjl':1≤(eQ h y (bC h v k)).length∧(eQ h y (bC h v k)).length≤2:=by
    rw[hjl];split<;>omega
   simp at h1 h2 hsz
   rw[hd1,hgoal,hsz]
   refine⟨?_,fun _=>⟨?_,?_,?_⟩,?_⟩
   ·show bF h (c++(eQ h y (bC h v k)++b))=_
    rw[bS,bS,JK,bS,yZ]
    simp
   ·show 1≤(c++(eQ h y (bC h v k)++b)).length
    simp;omega
   ·show (c++(eQ h y (bC h v k)++b)).length≤4
    simp;omega
   ·intro x hx
    have hx':x∈c++(eQ h y (bC h v k)++b):=hx
    simp at hx'
    rcases hx' with hx'|hx'|hx'
    ·exact hok x (.inl (by simp[hx']))
    ·exact hj x hx'
    ·exact hok x (.inr hx')
   ·show (c++(eQ h y (bC h v k)++b)).length≤_
    simp;omega
  ·have hy:=ON (hok y (.inr (by simp)))
   have hys:=tN (hok y (.inr (by simp)))
   have hj:=F2 h (bC h v k) y i2 hy (by omega)
   have hjl:=uB h (bC h v k) y (by omega)
   have hjl':1≤(eQ h (bC h v k) y).length∧(eQ h (bC h v k) y).length≤2:=by
    rw[hjl];split<;>omega
   simp at h1 h2 hsz
   rw[hd1,hgoal,hsz]
   refine⟨?_,fun _=>⟨?_,?_,?_⟩,?_⟩
   ·show bF h (eQ h (bC h v k) y++c)=_
    rw[bS,JK,eE]
    simp[bF]
   ·show 1≤(eQ h (bC h v k) y++c).length
    simp;omega
   ·show (eQ h (bC h v k) y++c).length≤4
    simp;omega
   ·intro x hx
    have hx':x∈eQ h (bC h v k) y++c:=hx
    simp at hx'
    rcases hx' with hx'|hx'
    ·exact hj x hx'
    ·exact hok x (.inr (by simp[hx']))
   ·show (eQ h (bC h v k) y++c).length≤_
    simp;omega
def gR (out:List Pr) (n:Nat) (l:List Pr):List Pr:=out++l.take (n - out.length)
theorem CS (out:List Pr) (n:Nat) (a b:List Pr):gR (gR out n a) n b=gR out n (a++b):=by
 unfold gR
 rw[List.append_assoc,List.take_append]
 congr 3
 simp
 omega
theorem rK {out:List Pr} {n:Nat} (h:n≤out.length) (l:List Pr):gR out n l=out:=by
 unfold gR
 rw[Nat.sub_eq_zero_of_le h]
 simp
theorem DL (l:List Pr) (k:Ky):eX l k=l.drop (dF l k):=by
 induction l with
 |nil=>rfl
 |cons q r ih=>
  unfold eX dF at ih ⊢
  rw[List.dropWhile_cons,List.takeWhile_cons]
  split
  ·rw[ih];simp
  ·simp
theorem i7 (p:Pr):aP p.av:=cP (cD aR aB aR)
theorem bO (l:List Pr):aP (.sl 3 (l.map Pr.av) .none):=by
 refine gO (fun a=>i7 a) ?_
 intro a c hc
 have:c∈[AV.str a.key.path,.int .i64 a.key.time,.str a.val]:=hc
 exact cD aR aB aR c this
theorem R4 (l:List Pr) (tg:eI) (hl:l.length < 1000000) (g:FuncId) (fi ca:List AV) (p:Pr→Bool) (hp:∀x,x∈l→aN Tryz.prog g (fi++[x.av]++ca) (.bool (p x))):aN Tryz.prog 286 [.sl 3 (l.map Pr.av) tg,.fn (.func g) fi ca] (.int .i64 (oQ l p)):=by
 intro M
 refine aC aF Tryz.func286 rfl (by decide) (by simp[Tryz.f286]) ?_
 have la:((l.map Pr.av).length:Int)=(l.length:Int):=by simp
 repeat' (first|refine zI rfl la ?_|refine zA rfl ?_|refine aA ?_|refine aJ rfl ?_)
 refine aX l.length (fun i f N=>N=M∧(∀(j:Nat) y,j < i→l[j]? =some y→p y=false)∧f=⟨[(0,.sl 3 (l.map Pr.av) tg),(1,.fn (.func g) fi ca),(7,.int .i64 (l.length:Int)),(8,.int .i64 (i:Int))],[]⟩) (Nat.zero_le _) ⟨rfl,fun j y hj=>absurd hj (Nat.not_lt_zero _),rfl⟩ (aM.le ?_ (aI.le_refl _)) ?_
 ·skip
  repeat (refine AF.le_cons rfl ?_)
  exact AF.le_nil rfl
 ·rintro i f N hi ⟨rfl,hno,rfl⟩
  by_cases h1:i < l.length
  ·have d1:decide ((i:Int) < (l.length:Int))=true:=by simp;omega
   have hx:l[i]? =some l[i]:=List.getElem?_eq_getElem h1
   have fi:=aQ (i:=i) (by omega)
   have hk:=hp l[i] (List.getElem_mem h1)
   generalize l[i]=x at hx hk
   cases hpx:p x
   ·rw[hpx] at hk
    repeat' (first|refine zB rfl d1 ?_|refine zA rfl ?_|refine aA ?_|refine aJ rfl ?_)
    refine zX rfl (c7 hx) ?_
    repeat' (first|refine zI rfl fi ?_|refine zA rfl ?_|refine aA ?_|refine aJ rfl ?_|refine aD rfl hk ?_)
    refine⟨h1,_,_,⟨rfl,?_,rfl⟩,aM.le ?_ (aI.le_refl _)⟩
    ·intro j y hj hy
     by_cases hji:j=i
     ·subst hji
      rw[hx] at hy
      cases hy
      exact hpx
     ·exact hno j y (by omega) hy
    ·skip
     repeat (refine AF.le_cons rfl ?_)
     exact AF.le_nil rfl
   ·rw[hpx] at hk
    repeat' (first|refine zB rfl d1 ?_|refine zA rfl ?_|refine aA ?_|refine aJ rfl ?_)
    refine zX rfl (c7 hx) ?_
    repeat' (first|refine zA rfl ?_|refine aA ?_|refine aJ rfl ?_|refine aD rfl hk ?_)
    exact⟨rfl,_,rfl,by rw[pM hno hx hpx];rfl,rfl⟩
  ·have d1:decide ((i:Int) < (l.length:Int))=false:=by simp;omega
   obtain rfl:i=l.length:=by omega
   repeat' (first|refine zB rfl d1 ?_|refine zA rfl ?_|refine aA ?_|refine aJ rfl ?_)
   exact⟨rfl,_,rfl,by rw[l6 (fun j y hy=>hno j y (List.getElem?_eq_some_iff.1 hy).1 hy)];rfl,rfl⟩
theorem ST (x:Pr) (k:Ky):aN Tryz.prog 285 [x.av,.ref [.str k.path,.int .i64 k.time]] (.bool (!bG x.key k)):=by
 intro M
 refine aC aF Tryz.func285 rfl (by decide) (by simp[Tryz.f285]) ?_
 have kl:=EB x.key k
 rw[G8] at kl
 repeat' (first|refine zA rfl ?_|refine aA ?_|refine aJ rfl ?_|refine aD rfl kl ?_)
 exact⟨rfl,_,rfl,rfl,rfl⟩
theorem YB (l:List Pr) (k:Ky):(l.findIdx fun x=>!bG x.key k)=dF l k:=by
 induction l with
 |nil=>rfl
 |cons q r ih=>
  unfold dF at ih ⊢
  rw[List.findIdx_cons,List.takeWhile_cons]
  cases h:bG q.key k
  ·simp
  ·simp[ih]
theorem mO (l:List Pr) (k:Ky):dF l k≤l.length:=by
 unfold dF
 exact (List.takeWhile_sublist _).length_le
def lC (l:List Pr) (k:Ky):Bool:=match l[dF l k]? with
 |some q=>decide (q.key=k)
 |none=>false
theorem OI (a b:Ky):((a.path==b.path)&&((decide (a.time=b.time))&&true))=decide (a=b):=by
 obtain⟨p,t⟩:=a
 obtain⟨q,u⟩:=b
 rw[Bool.eq_iff_iff]
 simp
theorem sO (l:List Pr) (tg:eI) (hl:l.length < 1000000) (k:Ky):aN Tryz.prog 281 [.sl 3 (l.map Pr.av) tg,k.av] (.tup [.int .i64 (dF l k),.bool (lC l k)]):=by
 intro M
 refine aC aF Tryz.func281 rfl (by decide) (by simp[Tryz.f281]) ?_
 have kf:=R4 l tg hl 285 [] [.ref [.str k.path,.int .i64 k.time]] (fun x=>!bG x.key k) (fun x _=>ST x k)
 have la:((l.map Pr.av).length:Int)=(l.length:Int):=by simp
 have hle:=mO l k
 unfold oQ at kf
 rw[YB] at kf
 unfold lC
 by_cases h1:dF l k < l.length
 ·rw[if_pos h1] at kf
  have hx:l[dF l k]? =some l[dF l k]:=List.getElem?_eq_getElem h1
  generalize l[dF l k]=q at hx
  generalize dF l k=n at kf hx h1 hle
  rw[hx]
  have d1:decide ((n:Int) < 0)=false:=by simp
  have ce:=OI q.key k
  repeat' (first|refine zB rfl d1 ?_|refine zA rfl ?_|refine aA ?_|refine aJ rfl ?_|refine aD rfl kf ?_|refine aO mixed [0,1,2,8,3,4,5,6,7,9] [.P,.P,.P,.R,.R,.R,.R,.P,.P,.P] rfl rfl (by kernel_rfl) ?_)
  refine zX rfl (c7 hx) ?_
  repeat' (first|refine zB rfl ce ?_|refine zA rfl ?_|refine aA ?_|refine aJ rfl ?_)
  exact⟨rfl,_,rfl,rfl,rfl⟩
 ·rw[if_neg h1] at kf
  have h2:dF l k=l.length:=by omega
  rw[h2,List.getElem?_eq_none (Nat.le_refl _)]
  repeat' (first|refine zI rfl la ?_|refine zA rfl ?_|refine aA ?_|refine aJ rfl ?_|refine aD rfl kf ?_)
  exact⟨rfl,_,rfl,rfl,rfl⟩
def rP (r:List Pr×Bool):AV:=.sl 3 (r.1.map Pr.av) (GV r.2)
theorem y2 (r:List Pr×Bool):aP (rP r):=by
 obtain⟨l,b⟩:=r
 have h1:∀x,x∈l.map Pr.av→aP x:=by
  intro x hx
  obtain⟨a,_,rfl⟩:=List.mem_map.1 hx
  exact i7 a
 have h2:∀x,x∈l.map Pr.av→∀c,c∈x.cells→aP c:=by
  intro x hx c hc
  obtain⟨a,_,rfl⟩:=List.mem_map.1 hx
  have:c∈[AV.str a.key.path,.int .i64 a.key.time,.str a.val]:=hc
  exact cD aR aB aR c this
 cases b
 ·exact c8 (.inl rfl) h1 h2
 ·exact c8 (.inr rfl) h1 h2
theorem pC (rows:List (List Pr×Bool)) (b:Bool):aP (.sl 1 (rows.map rP) (GV b)):=by
 have h1:∀x,x∈rows.map rP→aP x:=by
  intro x hx
  obtain⟨a,_,rfl⟩:=List.mem_map.1 hx
  exact y2 a
 have h2:∀x,x∈rows.map rP→∀c,c∈x.cells→aP c:=by
  intro x hx c hc
  obtain⟨a,_,rfl⟩:=List.mem_map.1 hx
  have:c=rP a:=by simpa [rP,AV.cells] using hc
  exact this ▸ y2 a
 cases b
 ·exact c8 (.inl rfl) h1 h2
 ·exact c8 (.inr rfl) h1 h2
def dN (rows:List (List Pr×Bool)):List Pr:=(rows.map (·.1)).flatten
theorem qY {rows:List (List Pr×Bool)} {i:Nat} {r:List Pr×Bool} (h:rows[i]? =some r):dN (rows.take (i+1))=dN (rows.take i)++r.1:=by
 unfold dN
 rw[b7 h]
 simp
theorem a12 {a b:List Pr} {t:eI}:AV.sl 3 (a.map Pr.av++b.map Pr.av) t=.sl 3 ((a++b).map Pr.av) t:=by simp
theorem CW {n:Nat}:∀(rows:List (List Pr×Bool)),(∀r,r∈rows→r.1.length≤n)→(dN rows).length≤rows.length*n
 |[],_=>by simp[dN]
 |r::s,h=>by
  have ih:=CW s (fun x hx=>h x (by simp[hx]))
  have h1:=h r (by simp)
  unfold dN at ih ⊢
  rw[List.map_cons,List.flatten_cons,List.length_append,List.length_cons,Nat.succ_mul]
  omega
theorem l8 (rows:List (List Pr×Bool)) (b:Bool) (hr:rows.length < 1000) (hl:∀r,r∈rows→r.1.length≤100000):aN Tryz.prog 284 [.sl 1 (rows.map rP) (GV b)] (.sl 3 ((dN rows).map Pr.av) .none):=by
 refine aT (aY (pC rows b)) (bO _) ?_
 refine aC aF Tryz.func284 rfl (by decide) (by simp[Tryz.f284]) ?_
 have la:((rows.map rP).length:Int)=(rows.length:Int):=by simp
 repeat' (first|refine zI rfl la ?_|refine zA rfl ?_|refine aA ?_|refine aJ rfl ?_)
 refine aX rows.length (fun i f N=>∃(g:Nat),N=tokM g∧f=⟨[(3,.sl 3 ((dN (rows.take i)).map Pr.av) (.tok 0 g)),(6,.sl 1 (rows.map rP) (GV b)),(7,.int .i64 (rows.length:Int)),(8,.int .i64 (i:Int))],[]⟩) (Nat.zero_le _) ⟨0,rfl,rfl⟩
  ((aM.tok 3 rfl (sz':=3) (.inr rfl)).trans (aM.le ?_ (cK rfl rfl))) ?_
 ·skip
  repeat (refine AF.le_cons rfl ?_)
  exact AF.le_nil rfl
 ·rintro i f N hi ⟨g,rfl,rfl⟩
  by_cases h1:i < rows.length
  ·have d1:decide ((i:Int) < (rows.length:Int))=true:=by simp;omega
   have hx:rows[i]? =some rows[i]:=List.getElem?_eq_getElem h1
   have fi:=aQ (i:=i) (by omega)
   have hfl:=CW (rows.take i) (fun r hr=>hl r (List.mem_of_mem_take hr))
   have htl:(rows.take i).length≤1000:=by simp;omega
   have hml:(dN (rows.take i)).length≤1000*100000:=Nat.le_trans hfl (Nat.mul_le_mul_right _ htl)
   have hri:=hl rows[i] (List.getElem_mem h1)
   have hs:=qY hx
   generalize rows[i]=r at hx hri hs
   repeat' (first|refine zB rfl d1 ?_|refine aA ?_|refine aJ rfl ?_)
   refine zX rfl (c7 hx) ?_
   repeat' (first|refine zI rfl fi ?_|refine zA rfl ?_|refine aA ?_|refine aJ rfl ?_|refine zP rfl rfl ?_)
   refine⟨h1,_,_,⟨g+1,rfl,rfl⟩,aM.le (AF.le_cons ?_ (AF.le_cons rfl (AF.le_cons rfl (AF.le_cons rfl (AF.le_nil rfl))))) (cK rfl rfl)⟩
   rw[hs]
   exact a12
  ·have d1:decide ((i:Int) < (rows.length:Int))=false:=by simp;omega
   obtain rfl:i=rows.length:=by omega
   repeat' (first|refine zB rfl d1 ?_|refine zA rfl ?_|refine aA ?_|refine aJ rfl ?_)
   rw[List.take_length]
   exact⟨rfl,_,rfl,_,rfl,aH.untag (bO _)⟩
theorem I1 (l:List Pr) (p:Pr):cV l p=l.take (dF l p.key)++([p]++if lC l p.key=true then l.drop (dF l p.key+1) else l.drop (dF l p.key)):=by
 induction l with
 |nil=>rfl
 |cons q r ih=>
  cases h:bG q.key p.key
  ·have e1:dF (q::r) p.key=0:=by unfold dF;rw[List.takeWhile_cons,if_neg (by simp[h])];rfl
   have e2:lC (q::r) p.key=decide (q.key=p.key):=by unfold lC;rw[e1];rfl
   rw[cV,if_neg (by simp[h]),e1,e2]
   by_cases he:q.key=p.key
   ·simp[he]
   ·simp[he]
  ·have e1:dF (q::r) p.key=dF r p.key+1:=by unfold dF;rw[List.takeWhile_cons,if_pos h];rfl
   have e2:lC (q::r) p.key=lC r p.key:=by unfold lC;rw[e1];rfl
   rw[cV,if_pos h,e1,e2,ih]
   simp
theorem G6 {l:List Pr} {k:Ky} (h:lC l k=true):dF l k < l.length:=by
 unfold lC at h
 cases hx:l[dF l k]? with
 |none=>rw[hx] at h;cases h
 |some q=>exact (List.getElem?_eq_some_iff.1 hx).1
theorem a26 (l:List Pr) (hl:l.length < 100000) (p:Pr):aN Tryz.prog 283 [.sl 3 (l.map Pr.av) .none,p.av] (.sl 3 ((cV l p).map Pr.av) .none):=by
 intro M
 refine aC aF Tryz.func283 rfl (by decide) (by simp[Tryz.f283]) ?_
 have kf:=sO l .none (by omega) p.key
 have hle:=mO l p.key
 have hj:=l8
 rw[I1]
 have hh:=@G6 l p.key
 generalize dF l p.key=n at kf hle hh
 cases hp:lC l p.key
 ·rw[hp] at kf
  rw[if_neg (by simp)]
  have kj:=l8 [(l.take n,false),([p],true),(l.drop n,false)] true (by simp) (by simp;omega)
  have e:dN [(l.take n,false),([p],true),(l.drop n,false)]=l.take n++([p]++l.drop n):=by simp[dN]
  rw[e] at kj
  repeat' (first|refine zA rfl ?_|refine aA ?_|refine aJ rfl ?_|refine aD rfl kf ?_)
  refine gM aF rfl rfl rfl rfl (lo:=n) rfl rfl rfl rfl rfl rfl hle ?_
  repeat' (first|refine zA rfl ?_|refine aA ?_|refine aJ rfl ?_|refine aO mixed [0,1,2,5,3,4,6,7,8] [.P,.P,.P,.R,.P,.P,.P,.P,.P] rfl rfl (by kernel_rfl) ?_)
  refine wN aF rfl rfl rfl rfl (n:=n) rfl rfl rfl rfl rfl rfl hle ?_
  repeat' (first|refine zA rfl ?_|refine aA ?_|refine aJ rfl ?_|refine aD rfl kj ?_|refine zR rfl ?_)
  exact⟨rfl,_,rfl,rfl,rfl⟩
 ·have hlt:=hh hp
  rw[hp] at kf
  rw[if_pos rfl]
  have kj:=l8 [(l.take n,false),([p],true),(l.drop (n+1),false)] true (by simp) (by simp;omega)
  have e:dN [(l.take n,false),([p],true),(l.drop (n+1),false)]=l.take n++([p]++l.drop (n+1)):=by simp[dN]
  rw[e] at kj
  repeat' (first|refine zA rfl ?_|refine aA ?_|refine aJ rfl ?_|refine aD rfl kf ?_)
  refine gM aF rfl rfl rfl rfl (lo:=n) rfl rfl rfl rfl rfl rfl hle ?_
  repeat' (first|refine zA rfl ?_|refine aA ?_|refine aJ rfl ?_)
  refine gM aF rfl rfl rfl rfl (lo:=1) rfl rfl rfl rfl rfl rfl (by simp;omega) ?_
  rw[List.drop_drop]
  repeat' (first|refine zA rfl ?_|refine aA ?_|refine aJ rfl ?_|refine aO mixed [0,1,2,5,3,4,6,7,8] [.P,.P,.P,.R,.P,.P,.P,.P,.P] rfl rfl (by kernel_rfl) ?_)
  refine wN aF rfl rfl rfl rfl (n:=n) rfl rfl rfl rfl rfl rfl hle ?_
  repeat' (first|refine zA rfl ?_|refine aA ?_|refine aJ rfl ?_|refine aD rfl kj ?_|refine zR rfl ?_)
  exact⟨rfl,_,rfl,rfl,rfl⟩
def dW:(h:Nat)→Vt h→AV
 |0,l=>.iface 175 (.sl 3 (l.row.map Pr.av) .none)
 |h+1,l=>.iface 223 (.agg [.sl 1 (l.kids.map (dW h)) .none,.int .i64 ((bE (h+1) l).length:Int)])
theorem dU:∀(h:Nat) (v:Vt h),aP (dW h v)
 |0,l=>nE (bO _)
 |h+1,l=>nE (cP (aZ (gO (dU h) (fun a c hc=>by
   have:c∈[dW h a]:=by cases h<;>exact hc
   simp at this
   exact this ▸ dU h a)) aB))
theorem WJ (h:Nat) (v:Vt h):∃ty z,dW h v=.iface ty z:=by cases h<;>exact⟨_,_,rfl⟩
theorem vC (h:Nat) (v:Vt h):(dW h v).cells=[dW h v]:=by cases h<;>rfl
theorem cZ (h:Nat) (l:List (Vt h)):aP (.sl 1 (l.map (dW h)) .none):=gO (dU h) (fun a c hc=>by
 rw[vC] at hc
 simp at hc
 exact hc ▸ dU h a)
theorem wL (h:Nat) (l:List (Vt h)) (b:Bool):aP (.sl 1 (l.map (dW h)) (GV b)):=by
 have h1:∀x,x∈l.map (dW h)→aP x:=by
  intro x hx
  obtain⟨a,_,rfl⟩:=List.mem_map.1 hx
  exact dU h a
 have h2:∀x,x∈l.map (dW h)→∀c,c∈x.cells→aP c:=by
  intro x hx c hc
  obtain⟨a,_,rfl⟩:=List.mem_map.1 hx
  rw[vC] at hc
  simp at hc
  exact hc ▸ dU h a
 cases b
 ·exact c8 (.inl rfl) h1 h2
 ·exact c8 (.inr rfl) h1 h2
theorem RJ (h:Nat) (l:List (Vt h)) (tg:eI) (hl:l.length < 1000000) (g:FuncId) (fi ca:List AV) (p:Vt h→Bool) (hp:∀x,x∈l→aN Tryz.prog g (fi++[dW h x]++ca) (.bool (p x))):aN Tryz.prog 298 [.sl 1 (l.map (dW h)) tg,.fn (.func g) fi ca] (.int .i64 (oQ l p)):=by
 intro M
 refine aC aF Tryz.func298 rfl (by decide) (by simp[Tryz.f298]) ?_
 have la:((l.map (dW h)).length:Int)=(l.length:Int):=by simp
 repeat' (first|refine zI rfl la ?_|refine zA rfl ?_|refine aA ?_|refine aJ rfl ?_)
 refine aX l.length (fun i f N=>N=M∧(∀(j:Nat) y,j < i→l[j]? =some y→p y=false)∧f=⟨[(0,.sl 1 (l.map (dW h)) tg),(1,.fn (.func g) fi ca),(7,.int .i64 (l.length:Int)),(8,.int .i64 (i:Int))],[]⟩) (Nat.zero_le _) ⟨rfl,fun j y hj=>absurd hj (Nat.not_lt_zero _),rfl⟩ (aM.le ?_ (aI.le_refl _)) ?_
 ·skip
  repeat (refine AF.le_cons rfl ?_)
  exact AF.le_nil rfl
 ·rintro i f N hi ⟨rfl,hno,rfl⟩
  by_cases h1:i < l.length
  ·have d1:decide ((i:Int) < (l.length:Int))=true:=by simp;omega
   have hx:l[i]? =some l[i]:=List.getElem?_eq_getElem h1
   have fi:=aQ (i:=i) (by omega)
   have hk:=hp l[i] (List.getElem_mem h1)
   generalize l[i]=x at hx hk
   have hmg:=FI (f:=dW h) hx
   obtain⟨ty,z,hax⟩:=WJ h x
   rw[hax] at hk hmg
   cases hpx:p x
   ·rw[hpx] at hk
    repeat' (first|refine zB rfl d1 ?_|refine zA rfl ?_|refine aA ?_|refine aJ rfl ?_)
    refine dT aF rfl rfl rfl rfl rfl rfl rfl rfl rfl rfl (Int.natCast_nonneg _) hmg ?_
    repeat' (first|refine zI rfl fi ?_|refine zA rfl ?_|refine aA ?_|refine aJ rfl ?_|refine aD rfl hk ?_)
    refine⟨h1,_,_,⟨rfl,?_,rfl⟩,aM.le ?_ (aI.le_refl _)⟩
    ·intro j y hj hy
     by_cases hji:j=i
     ·subst hji
      rw[hx] at hy
      cases hy
      exact hpx
     ·exact hno j y (by omega) hy
    ·skip
     repeat (refine AF.le_cons rfl ?_)
     exact AF.le_nil rfl
   ·rw[hpx] at hk
    repeat' (first|refine zB rfl d1 ?_|refine zA rfl ?_|refine aA ?_|refine aJ rfl ?_)
    refine dT aF rfl rfl rfl rfl rfl rfl rfl rfl rfl rfl (Int.natCast_nonneg _) hmg ?_
    repeat' (first|refine zA rfl ?_|refine aA ?_|refine aJ rfl ?_|refine aD rfl hk ?_)
    exact⟨rfl,_,rfl,by rw[pM hno hx hpx];rfl,rfl⟩
  ·have d1:decide ((i:Int) < (l.length:Int))=false:=by simp;omega
   obtain rfl:i=l.length:=by omega
   repeat' (first|refine zB rfl d1 ?_|refine zA rfl ?_|refine aA ?_|refine aJ rfl ?_)
   exact⟨rfl,_,rfl,by rw[l6 (fun j y hy=>hno j y (List.getElem?_eq_some_iff.1 hy).1 hy)];rfl,rfl⟩
theorem OU (n:Nat) (h:n < 1000000):IntKind.wrap .i64 (Int.tdiv (n:Int) 2)=((n/2:Nat):Int):=by
 have e:Int.tdiv (n:Int) 2=((n/2:Nat):Int):=rfl
 rw[e]
 exact Go.Ab.wrap_small (by omega) (by omega)
def a7r (l:List (List Pr)):AV:=.sl 1 (l.map fun r=>.sl 3 (r.map Pr.av) .none) .full
theorem N1 (l:List Pr) (hl:l.length < 100000):aN Tryz.prog 287 [.sl 3 (l.map Pr.av) .none] (a7r (bB l)):=by
 intro M
 refine aC aF Tryz.func287 rfl (by decide) (by simp[Tryz.f287]) ?_
 have la:((l.map Pr.av).length:Int)=(l.length:Int):=by simp
 unfold bB
 by_cases h4:l.length≤4
 ·have d4:decide ((l.length:Int)≤4)=true:=by simp;omega
  rw[if_pos h4]
  repeat' (first|refine zB rfl d4 ?_|refine zI rfl la ?_|refine zA rfl ?_|refine aA ?_|refine aJ rfl ?_|refine zR rfl ?_)
  exact⟨rfl,_,rfl,rfl,rfl⟩
 ·have d4:decide ((l.length:Int)≤4)=false:=by simp;omega
  have w1:=OU l.length (by omega)
  rw[if_neg h4]
  repeat' (first|refine zB rfl d4 ?_|refine zI rfl (by first|exact la|exact w1) ?_|refine zA rfl ?_|refine aA ?_|refine aJ rfl ?_|refine aO mixed [0,1,2,3,4,5,6,7,8,9,10,11] [.P,.P,.P,.P,.P,.P,.P,.P,.P,.P,.P,.P] rfl rfl (by kernel_rfl) ?_)
  refine wN aF rfl rfl rfl rfl (n:=l.length/2) rfl rfl rfl rfl rfl rfl (by omega) ?_
  repeat' (first|refine zI rfl (by first|exact la|exact w1) ?_|refine zA rfl ?_)
  refine gM aF rfl rfl rfl rfl (lo:=l.length/2) rfl rfl rfl rfl rfl rfl (by omega) ?_
  repeat' (first|refine zA rfl ?_|refine aA ?_|refine aJ rfl ?_|refine zR rfl ?_)
  exact⟨rfl,_,rfl,rfl,rfl⟩
def a8i (h:Nat) (l:List (List (Vt h))):AV:=.sl 1 (l.map fun r=>.sl 1 (r.map (dW h)) .none) .full
theorem MC (h:Nat) (l:List (Vt h)) (hl:l.length < 100000):aN Tryz.prog 177 [.sl 1 (l.map (dW h)) .none] (a8i h (bB l)):=by
 intro M
 refine aC aF Tryz.func177 rfl (by decide) (by simp[Tryz.f177]) ?_
 have la:((l.map (dW h)).length:Int)=(l.length:Int):=by simp
 unfold bB
 by_cases h4:l.length≤4
 ·have d4:decide ((l.length:Int)≤4)=true:=by simp;omega
  rw[if_pos h4]
  repeat' (first|refine zB rfl d4 ?_|refine zI rfl la ?_|refine zA rfl ?_|refine aA ?_|refine aJ rfl ?_|refine zR rfl ?_)
  exact⟨rfl,_,rfl,rfl,rfl⟩
 ·have d4:decide ((l.length:Int)≤4)=false:=by simp;omega
  have w1:=OU l.length (by omega)
  rw[if_neg h4]
  repeat' (first|refine zB rfl d4 ?_|refine zI rfl (by first|exact la|exact w1) ?_|refine zA rfl ?_|refine aA ?_|refine aJ rfl ?_|refine aO mixed [0,1,2,3,4,5,6,7,8,9,10,11] [.P,.P,.P,.P,.P,.P,.P,.P,.P,.P,.P,.P] rfl rfl (by kernel_rfl) ?_)
  refine wN aF rfl rfl rfl rfl (n:=l.length/2) rfl rfl rfl rfl rfl rfl (by omega) ?_
  repeat' (first|refine zI rfl (by first|exact la|exact w1) ?_|refine zA rfl ?_)
  refine gM aF rfl rfl rfl rfl (lo:=l.length/2) rfl rfl rfl rfl rfl rfl (by omega) ?_
  repeat' (first|refine zA rfl ?_|refine aA ?_|refine aJ rfl ?_|refine zR rfl ?_)
  exact⟨rfl,_,rfl,rfl,rfl⟩
def XE (l:List (Vt 0)):AV:=.sl 1 (l.map fun r=>.sl 3 (r.row.map Pr.av) .none) .full
theorem a07 {a:List (Vt 0)} {r:Vt 0} {t:eI}:AV.sl 1 (a.map (dW 0)++[.iface 175 (.sl 3 (r.row.map Pr.av) .none)]) t=.sl 1 ((a++[r]).map (dW 0)) t:=by
 rw[List.map_append]
 rfl
theorem BX (l:List Pr) (hl:l.length < 100000):aN Tryz.prog 282 [.sl 3 (l.map Pr.av) .none] (.sl 1 ((bB l:List (Vt 0)).map (dW 0)) .none):=by
 refine aT (aY (bO _)) (cZ 0 _) ?_
 refine aC aF Tryz.func282 rfl (by decide) (by simp[Tryz.f282]) ?_
 have k0:=N1 l hl
 have hlen:=gG l
 have h20:(bB l).length≤2:=by rw[hlen];split<;>omega
 obtain⟨rows,hrows⟩:∃rows:List (Vt 0),rows=bB l:=⟨_,rfl⟩
 have h2:rows.length≤2:=by rw[hrows];exact h20
 have k:aN Tryz.prog 287 [.sl 3 (l.map Pr.av) .none] (XE rows):=by rw[hrows];exact k0
 have hg:((bB l:List (Vt 0)).map (dW 0))=rows.map (dW 0):=by rw[hrows]
 rw[hg]
 unfold XE at k
 have la:((rows.map fun r=>AV.sl 3 (r.row.map Pr.av) .none).length:Int)=(rows.length:Int):=by simp
 repeat' (first|refine zI rfl la ?_|refine zA rfl ?_|refine aA ?_|refine aJ rfl ?_|refine aD rfl k ?_)
 refine aX rows.length (fun i f N=>∃(g:Nat),N=tokM g∧f=⟨[(3,.sl 1 ((rows.take i).map (dW 0)) (.tok 0 g)),(7,.sl 1 (rows.map fun r=>.sl 3 (r.row.map Pr.av) .none) .full),(8,.int .i64 (rows.length:Int)),(9,.int .i64 (i:Int))],[]⟩) (Nat.zero_le _) ⟨0,rfl,rfl⟩
  ((aM.tok 3 rfl (sz':=1) (.inr rfl)).trans (aM.le ?_ (cK rfl rfl))) ?_
 ·skip
  repeat (refine AF.le_cons rfl ?_)
  exact AF.le_nil rfl
 ·rintro i f N hi ⟨g,rfl,rfl⟩
  by_cases h1:i < rows.length
  ·have d1:decide ((i:Int) < (rows.length:Int))=true:=by simp;omega
   have hx:rows[i]? =some rows[i]:=List.getElem?_eq_getElem h1
   have fi:=aQ (i:=i) (by omega)
   have hs:=b7 hx
   generalize rows[i]=r at hx hs
   repeat' (first|refine zB rfl d1 ?_|refine aA ?_|refine aJ rfl ?_)
   refine zX rfl (c7 hx) ?_
   repeat' (first|refine zI rfl fi ?_|refine zA rfl ?_|refine aA ?_|refine aJ rfl ?_|refine zR rfl ?_|refine zP rfl rfl ?_)
   refine⟨h1,_,_,⟨g+1,rfl,rfl⟩,aM.le (AF.le_cons ?_ (AF.le_cons rfl (AF.le_cons rfl (AF.le_cons rfl (AF.le_nil rfl))))) (cK rfl rfl)⟩
   rw[hs]
   exact a07
  ·have d1:decide ((i:Int) < (rows.length:Int))=false:=by simp;omega
   obtain rfl:i=rows.length:=by omega
   repeat' (first|refine zB rfl d1 ?_|refine zA rfl ?_|refine aA ?_|refine aJ rfl ?_)
   rw[List.take_length]
   exact⟨rfl,_,rfl,_,rfl,aH.untag (cZ 0 _)⟩
theorem WA (n:Nat) (h0:0 < n) (h1:n < 1000000) (M:aI):aS Tryz.prog 301 [.sl 0 [] .full,.int .i64 (n:Int)] M (fun e M'=>∃(cap:Nat) (l':List AV),n≤cap∧l'.length=cap∧e=.ret (.osl M.next 0 0 cap 1)∧M'=M.push (.cells l')):=by
 refine aC aF Tryz.func301 rfl (by decide) (by simp[Tryz.f301]) ?_
 have d1:decide ((n:Int) < 0)=false:=by simp
 have w0:IntKind.wrap .i64 ((n:Int) - 0)=(n:Int):=(Go.Ab.wrap_small (by omega) (by omega)).trans (by omega)
 have d2:decide ((0:Int) < (n:Int))=true:=by simp;omega
 repeat' (first|refine zB rfl d1 ?_|refine zA rfl ?_|refine aA ?_|refine aJ rfl ?_)
 refine G1 aF rfl rfl rfl rfl rfl rfl rfl ?_
 repeat' (first|refine zB rfl d2 ?_|refine zI rfl w0 ?_|refine zA rfl ?_|refine aA ?_|refine aJ rfl ?_)
 refine G1 aF rfl rfl rfl rfl rfl rfl rfl ?_
 skip
 refine AD aF rfl rfl rfl rfl rfl rfl rfl rfl rfl ?_
 repeat' (first|refine zA rfl ?_)
 refine P7 aF rfl rfl rfl rfl rfl (n:=n) rfl rfl rfl rfl rfl rfl rfl rfl h0 (by simp;omega) (by omega) ?_
 intro cap' l' g1 g2
 repeat' (first|refine zA rfl ?_)
 refine D4 aF rfl rfl rfl rfl rfl (l:=l') rfl (by rw[aI.get_push,if_pos rfl]) rfl rfl rfl rfl (by omega) (by simp) g1 ?_
 repeat' (first|refine zA rfl ?_|refine aA ?_|refine aJ rfl ?_)
 exact⟨rfl,_,rfl,cap',l',g1,by simpa using g2,rfl,rfl⟩
def oJ (h:Nat) (r:List (Vt h)×Bool):AV:=.sl 1 (r.1.map (dW h)) (GV r.2)
theorem sG (h:Nat) (rows:List (List (Vt h)×Bool)) (b:Bool):aP (.sl 1 (rows.map (oJ h)) (GV b)):=by
 have h1:∀x,x∈rows.map (oJ h)→aP x:=by
  intro x hx
  obtain⟨a,_,rfl⟩:=List.mem_map.1 hx
  exact wL h a.1 a.2
 have h2:∀x,x∈rows.map (oJ h)→∀c,c∈x.cells→aP c:=by
  intro x hx c hc
  obtain⟨a,_,rfl⟩:=List.mem_map.1 hx
  have:c=oJ h a:=by simpa [oJ,AV.cells] using hc
  exact this ▸ wL h a.1 a.2
 cases b
 ·exact c8 (.inl rfl) h1 h2
 ·exact c8 (.inr rfl) h1 h2
def fK {h:Nat} (rows:List (List (Vt h)×Bool)):List (Vt h):=(rows.map (·.1)).flatten
theorem AK {h:Nat} {rows:List (List (Vt h)×Bool)} {i:Nat} {r:List (Vt h)×Bool} (hr:rows[i]? =some r):fK (rows.take (i+1))=fK (rows.take i)++r.1:=by
 unfold fK
 rw[b7 hr]
 simp
theorem zU {h:Nat} (rows:List (List (Vt h)×Bool)) (i:Nat):(fK (rows.take i)).length≤(fK rows).length:=by
 unfold fK
 have:rows=rows.take i++rows.drop i:=(List.take_append_drop i rows).symm
 conv=>rhs;rw[this]
 rw[List.map_append,List.flatten_append,List.length_append]
 omega
def a1h {h:Nat} (rows:List (List (Vt h)×Bool)) (b:Bool) (i:Nat) (x:AV):List (Nat×AV):=[(6,x),(25,.sl 1 (rows.map (oJ h)) (GV b)),(26,.int .i64 (rows.length:Int)),(27,.int .i64 (i:Int))]
theorem a49 {h k id:Nat} {rows:List (List (Vt h)×Bool)} {b:Bool} {i:Nat} {x:AV} {f:AF} (h6:gT k id (f.get 6) x) (h25:f.get 25=.sl 1 (rows.map (oJ h)) (GV b)) (h26:f.get 26=.int .i64 (rows.length:Int)) (h27:f.get 27=.int .i64 (i:Int)):JL k id f (a1h rows b i x):=by
 refine⟨h6,?_,?_,?_,trivial⟩
 ·rw[h25];exact gT.of_closed (sG h rows b)
 ·rw[h26];exact gT.of_closed aB
 ·rw[h27];exact gT.of_closed aB
theorem rW (h:Nat) (l:List (Vt h)):∀x,x∈l.map (dW h)→aP x:=by
 intro x hx
 obtain⟨a,_,rfl⟩:=List.mem_map.1 hx
 exact dU h a
theorem xP (h:Nat) (l:List (Vt h)):∀x,x∈l.map (dW h)→x.cells=[x]:=by
 intro x hx
 obtain⟨a,_,rfl⟩:=List.mem_map.1 hx
 exact vC h a
theorem HC {h:Nat} {A B:List (Vt h)} {cap':Nat} {cells l':List AV} (hc:cells.take A.length=A.map (dW h)) (g1:A.length+(B.map (dW h)).length≤cap') (g2:l'.length=cap'*1)
  (g3:l'.take ((A.length+(B.map (dW h)).length)*1)=cells.take (A.length*1)++b9 (B.map (dW h))):
  l'.take ((A++B).map (dW h)).length=(A++B).map (dW h)∧l'.length=cap'∧((A++B).map (dW h)).length≤cap':=by
 rw[XH (xP h B),Nat.mul_one,Nat.mul_one,hc] at g3
 have e:((A++B).map (dW h)).length=A.length+(B.map (dW h)).length:=by simp
 rw[e]
 refine⟨by rw[List.map_append];exact g3,by rw[g2,Nat.mul_one],g1⟩
theorem yN (h:Nat) (rows:List (List (Vt h)×Bool)) (b:Bool) (hr:rows.length < 1000) (h0:0 < (fK rows).length) (h1:(fK rows).length < 100000):aN Tryz.prog 299 [.sl 1 (rows.map (oJ h)) (GV b)] (.sl 1 ((fK rows).map (dW h)) .none):=by
 refine aT (aY (sG h rows b)) (cZ h _) ?_
 refine aC aF Tryz.func299 rfl (by decide) (by simp[Tryz.f299]) ?_
 have la:((rows.map (oJ h)).length:Int)=(rows.length:Int):=by simp
 repeat' (first|refine zI rfl la ?_|refine zA rfl ?_|refine aA ?_|refine aJ rfl ?_)
 refine aX rows.length (fun i f N=>N=⟨0,[]⟩∧f=⟨[(0,.sl 1 (rows.map (oJ h)) (GV b)),(3,.int .i64 ((fK (rows.take i)).length:Int)),(9,.sl 1 (rows.map (oJ h)) (GV b)),(10,.int .i64 (rows.length:Int)),(11,.int .i64 (i:Int))],[]⟩) (Nat.zero_le _) ⟨rfl,rfl⟩ (aM.le ?_ (aI.le_refl _)) ?_
 ·skip
  repeat (refine AF.le_cons rfl ?_)
  exact AF.le_nil rfl
 ·rintro i f N hi ⟨rfl,rfl⟩
  by_cases hi1:i < rows.length
  ·have d1:decide ((i:Int) < (rows.length:Int))=true:=by simp;omega
   have hx:rows[i]? =some rows[i]:=List.getElem?_eq_getElem hi1
   have fi:=aQ (i:=i) (by omega)
   have hs:=AK hx
   have hle:=zU rows (i+1)
   generalize rows[i]=r at hx hs
   rw[hs,List.length_append] at hle
   have lr:((r.1.map (dW h)).length:Int)=(r.1.length:Int):=by simp
   have w1:IntKind.wrap .i64 (((fK (rows.take i)).length:Int)+(r.1.length:Int))=((fK (rows.take (i+1))).length:Int):=by
    rw[hs,List.length_append]
    exact (Go.Ab.wrap_small (by omega) (by omega)).trans (by omega)
   have d2:decide (((fK (rows.take (i+1))).length:Int) < 0)=false:=by simp
   repeat' (first|refine zB rfl d1 ?_|refine aA ?_|refine aJ rfl ?_)
   refine zX rfl (c7 hx) ?_
   repeat' (first|refine zB rfl d2 ?_|refine zI rfl (by first|exact fi|exact lr|exact w1) ?_|refine zA rfl ?_|refine aA ?_|refine aJ rfl ?_)
   refine⟨hi1,_,_,⟨rfl,rfl⟩,aM.le ?_ (aI.le_refl _)⟩
   repeat (refine AF.le_cons rfl ?_)
   exact AF.le_nil rfl
  ·have d1:decide ((i:Int) < (rows.length:Int))=false:=by simp;omega
   obtain rfl:i=rows.length:=by omega
   rw[List.take_length]
   repeat' (first|refine zB rfl d1 ?_|refine zA rfl ?_|refine aA ?_|refine aJ rfl ?_)
   refine FH rfl rfl rfl rfl rfl rfl (WA (fK rows).length h0 (by omega) ⟨0,[]⟩) ?_ (fun u M' ⟨_,_,_,_,e,_⟩=>by cases e)
   rintro u M' ⟨cap,l',g1,g2,g3,rfl⟩
   cases g3
   repeat' (first|refine zI rfl la ?_|refine zA rfl ?_|refine aA ?_|refine aJ rfl ?_)
   refine aX rows.length (fun i f N=>∃(cap:Nat) (cells:List AV) (id:Nat),id≤1∧(fK (rows.take i)).length≤cap∧cells.take (fK (rows.take i)).length=(fK (rows.take i)).map (dW h)∧cells.length=cap∧N=⟨id+1,[(id,.cells cells)]⟩∧f=⟨a1h rows b i (.osl id 0 (fK (rows.take i)).length cap 1),[]⟩) (Nat.zero_le _) ⟨cap,l',0,Nat.zero_le 1,Nat.zero_le _,rfl,g2,rfl,rfl⟩ (aM.le ?_ (aI.le_refl _)) ?_
   ·unfold a1h
    repeat (refine AF.le_cons rfl ?_)
    exact AF.le_nil rfl
   ·rintro i f N hi ⟨cap,cells,id,hid,hcap,hce,hcl,rfl,rfl⟩
    have hle0:=zU rows i
    unfold a1h
    by_cases hi1:i < rows.length
    ·have d1:decide ((i:Int) < (rows.length:Int))=true:=by simp;omega
     have hx:rows[i]? =some rows[i]:=List.getElem?_eq_getElem hi1
     have fi:=aQ (i:=i) (by omega)
     have hs:=AK hx
     have hle:=zU rows (i+1)
     generalize rows[i]=r at hx hs
     rw[hs,List.length_append] at hle
     generalize fK (rows.take i)=A at hs hle hle0 hce hcap
     have hl:(A++r.1).length=A.length+(r.1.map (dW h)).length:=by simp
     have hid2:id=0∨id=1:=by omega
     rcases hid2 with rfl|rfl
     ·repeat' (first|refine zB rfl d1 ?_|refine aA ?_|refine aJ rfl ?_)
      refine zX rfl (c7 hx) ?_
      repeat' (first|refine zA rfl ?_|refine aA ?_|refine aJ rfl ?_)
      refine nM aF rfl rfl rfl rfl rfl (l:=cells) rfl rfl rfl rfl rfl rfl rfl rfl rfl rfl (by omega) (by omega) (by simp;omega) (by simp;omega) ?_
      intro cap' l' g1 g2 g3
      repeat' (first|refine zI rfl (by first|exact la|exact fi) ?_|refine zA rfl ?_|refine aA ?_|refine aJ rfl ?_)
      obtain⟨k1,k2,k3⟩:=HC hce g1 g2 g3
      have hg:=sP (k:=1) (id:=1) k1 k2 k3 (rW h _)
      refine⟨hi1,_,_,⟨cap',sI ((A++r.1).map (dW h)) cap',1,Nat.le_refl 1,?_,?_,?_,rfl,rfl⟩,aM.move (k:=1) (id:=1) (Nat.le_refl 1) (Nat.le_refl 1) rfl hg.1 hg.2 trivial ?_ trivial⟩
      ·rw[hs];rw[List.length_map] at k3;exact k3
      ·rw[hs];have:=qA ((A++r.1).map (dW h)) cap';rw[List.length_map] at this;exact this
      ·exact pI k3
      ·rw[hs,hl]
       exact a49 gT.osl rfl rfl rfl
     ·repeat' (first|refine zB rfl d1 ?_|refine aA ?_|refine aJ rfl ?_)
      refine zX rfl (c7 hx) ?_
      repeat' (first|refine zA rfl ?_|refine aA ?_|refine aJ rfl ?_)
      refine nM aF rfl rfl rfl rfl rfl (l:=cells) rfl rfl rfl rfl rfl rfl rfl rfl rfl rfl (by omega) (by omega) (by simp;omega) (by simp;omega) ?_
      intro cap' l' g1 g2 g3
      repeat' (first|refine zI rfl (by first|exact la|exact fi) ?_|refine zA rfl ?_|refine aA ?_|refine aJ rfl ?_)
      obtain⟨k1,k2,k3⟩:=HC hce g1 g2 g3
      have hg:=sP (k:=1) (id:=2) k1 k2 k3 (rW h _)
      refine⟨hi1,_,_,⟨cap',sI ((A++r.1).map (dW h)) cap',1,Nat.le_refl 1,?_,?_,?_,rfl,rfl⟩,aM.move (k:=1) (id:=2) (Nat.le_refl 1) (by omega) rfl hg.1 hg.2 trivial ?_ trivial⟩
      ·rw[hs];rw[List.length_map] at k3;exact k3
      ·rw[hs];have:=qA ((A++r.1).map (dW h)) cap';rw[List.length_map] at this;exact this
      ·exact pI k3
      ·rw[hs,hl]
       exact a49 gT.osl rfl rfl rfl
    ·have d1:decide ((i:Int) < (rows.length:Int))=false:=by simp;omega
     obtain rfl:i=rows.length:=by omega
     rw[List.take_length] at hce hcap
     rw[List.take_length]
     have hid2:id=0∨id=1:=by omega
     rcases hid2 with rfl|rfl
     ·refine lN (aM.freeze 6 (xs:=(fK rows).map (dW h)) rfl rfl hce (by omega) hcap (xP h _)) ?_
      repeat' (first|refine zB rfl d1 ?_|refine zA rfl ?_|refine aA ?_|refine aJ rfl ?_)
      exact⟨rfl,_,rfl,_,rfl,aH.of_closed (cZ h _)⟩
     ·refine lN (aM.freeze 6 (xs:=(fK rows).map (dW h)) rfl rfl hce (by omega) hcap (xP h _)) ?_
      repeat' (first|refine zB rfl d1 ?_|refine zA rfl ?_|refine aA ?_|refine aJ rfl ?_)
      exact⟨rfl,_,rfl,_,rfl,aH.of_closed (cZ h _)⟩
def GJ:Nat→TypeId
 |0=>175
 |_+1=>223
def uC:(h:Nat)→Vt h→AV
 |0,l=>.sl 3 (l.row.map Pr.av) .none
 |h+1,l=>.agg [.sl 1 (l.kids.map (dW h)) .none,.int .i64 ((bE (h+1) l).length:Int)]
theorem i4 (h:Nat) (v:Vt h):dW h v=.iface (GJ h) (uC h v):=by cases h<;>rfl
theorem g9 {h:Nat} {l:List (Vt h)} {i:Nat} {x:Vt h} (hx:l[i]? =some x):(l.map (dW h))[i]? =some (.iface (GJ h) (uC h x)):=by
 rw[←i4]
 exact FI hx
theorem MG (l:List Pr):aN Tryz.prog 275 [.sl 3 (l.map Pr.av) .none] (.int .i64 (l.length:Int)):=by
 intro M
 refine aC aF Tryz.func275 rfl (by decide) (by simp[Tryz.f275]) ?_
 have la:((l.map Pr.av).length:Int)=(l.length:Int):=by simp
 repeat' (first|refine zI rfl la ?_|refine zA rfl ?_|refine aA ?_|refine aJ rfl ?_)
 exact⟨rfl,_,rfl,rfl,rfl⟩
theorem NW (x:AV) (n:Int):aN Tryz.prog 288 [.agg [x,.int .i64 n]] (.int .i64 n):=by
 intro M
 refine aC aF Tryz.func288 rfl (by decide) (by simp[Tryz.f288]) ?_
 repeat' (first|refine zA rfl ?_|refine aA ?_|refine aJ rfl ?_)
 exact⟨rfl,_,rfl,rfl,rfl⟩
def a95:Nat→FuncId
 |0=>275
 |_+1=>288
theorem a8n (h:Nat):fG Tryz.prog (GJ h) "sexton/tree.all" =some (a95 h):=by
 cases h
 ·show fG Tryz.prog 175 "sexton/tree.all" =some 275
  kernel_rfl
 ·show fG Tryz.prog 223 "sexton/tree.all" =some 288
  kernel_rfl
theorem YM (h:Nat) (v:Vt h):aN Tryz.prog (a95 h) [uC h v] (.int .i64 ((bE h v).length:Int)):=by
 cases h with
 |zero=>exact MG v.row
 |succ h=>exact NW _ _
theorem D2 {h:Nat} {l:List (Vt h)} {i:Nat} {x:Vt h} (hx:l[i]? =some x):bF h (l.take (i+1))=bF h (l.take i)++bE h x:=by
 rw[b7 hx,bS,yZ]
theorem wQ {h:Nat} (l:List (Vt h)) (i:Nat):(bF h (l.take i)).length≤(bF h l).length:=by
 have:l=l.take i++l.drop i:=(List.take_append_drop i l).symm
 conv=>rhs;rw[this]
 rw[bS,List.length_append]
 omega
theorem MT {h:Nat} {l:List (Vt h)} {r:List (Vt h)} (hr:r∈bB l):(bF h r).length≤(bF h l).length:=by
 unfold bB at hr
 split at hr
 ·simp at hr
  rw[hr]
  exact Nat.le_refl _
 ·simp only[List.mem_cons,List.not_mem_nil,or_false] at hr
  rcases hr with rfl|rfl
  ·exact wQ _ _
  ·have:=bS (h:=h) (l.take (l.length/2)) (l.drop (l.length/2))
   rw[List.take_append_drop] at this
   rw[this,List.length_append]
   omega
def a8a (g:Nat) (c:List AV):aI:=⟨2,[(1,.cells c),(0,.spare g)]⟩
theorem P3 {g:Nat} {c:List AV} {M:aI} (hn:2=M.next) (h1:M.get 1=some (.cells c)) (h0:M.get 0=some (.spare g)):(a8a g c).le M:=aI.le_cons h1 (aI.le_cons h0 (aI.le_nil hn))
theorem a28 {h:Nat} {a:List (Vt (h+1))} {r:Vt (h+1)} {t:eI} {n:Int} (hn:n=((bE (h+1) r).length:Int)):AV.sl 1 (a.map (dW (h+1))++[.iface 223 (.agg [.sl 1 (r.kids.map (dW h)) .none,.int .i64 n])]) t=.sl 1 ((a++[r]).map (dW (h+1))) t:=by
 rw[List.map_append,hn]
 rfl
def LI (h:Nat) (l:List (Vt (h+1))):AV:=.sl 1 (l.map fun r=>.sl 1 (r.kids.map (dW h)) .none) .full
theorem BA (h:Nat) (rows:List (Vt (h+1))):aP (LI h rows):=by
 have h1:∀x,x∈(rows.map fun r=>AV.sl 1 (r.kids.map (dW h)) .none)→aP x:=by
  intro x hx
  obtain⟨a,_,rfl⟩:=List.mem_map.1 hx
  exact cZ h a.kids
 refine c8 (.inr rfl) h1 ?_
 intro x hx c hc
 obtain⟨a,_,rfl⟩:=List.mem_map.1 hx
 have:c=.sl 1 (a.kids.map (dW h)) .none:=by simpa [AV.cells] using hc
 exact this ▸ cZ h a.kids
theorem tU (h:Nat) (l:List (Vt h)) (hl:l.length < 10000) (hs:(bF h l).length < 1000000000):aN Tryz.prog 140 [.sl 1 (l.map (dW h)) .none] (.sl 1 ((bB l:List (Vt (h+1))).map (dW (h+1))) .none):=by
 refine aT (aY (cZ h l)) (cZ (h+1) _) ?_
 refine aC aF Tryz.func140 rfl (by decide) (by simp[Tryz.f140]) ?_
 have k0:=MC h l (by omega)
 have hlen:=gG l
 have h20:(bB l).length≤2:=by rw[hlen];split<;>omega
 have hsub0:∀r,r∈bB l→(bF h r).length < 1000000000∧r.length≤l.length:=fun r hr=>⟨by have:=MT hr;omega,by
  unfold bB at hr
  split at hr
  ·simp at hr;rw[hr];exact Nat.le_refl _
  ·simp at hr
   rcases hr with rfl|rfl<;>simp<;>omega⟩
 obtain⟨rows,hrows⟩:∃rows:List (Vt (h+1)),rows=bB l:=⟨_,rfl⟩
 have h2:rows.length≤2:=by rw[hrows];exact h20
 have hsub:∀r,r∈rows→(bF h r.kids).length < 1000000000∧r.kids.length≤l.length:=by rw[hrows];exact hsub0
 have k:aN Tryz.prog 177 [.sl 1 (l.map (dW h)) .none] (LI h rows):=by rw[hrows];exact k0
 have hg:((bB l:List (Vt (h+1))).map (dW (h+1)))=rows.map (dW (h+1)):=by rw[hrows]
 rw[hg]
 unfold LI at k
 have la:((rows.map fun r=>AV.sl 1 (r.kids.map (dW h)) .none).length:Int)=(rows.length:Int):=by simp
 repeat' (first|refine zI rfl la ?_|refine zA rfl ?_|refine aA ?_|refine aJ rfl ?_|refine aD rfl k ?_)
 refine aX rows.length (fun i f N=>∃(g:Nat),N=tokM g∧f=⟨[(3,.sl 1 ((rows.take i).map (dW (h+1))) (.tok 0 g)),(10,.sl 1 (rows.map fun r=>.sl 1 (r.kids.map (dW h)) .none) .full),(11,.int .i64 (rows.length:Int)),(12,.int .i64 (i:Int))],[]⟩) (Nat.zero_le _) ⟨0,rfl,rfl⟩
  ((aM.tok 3 rfl (sz':=1) (.inr rfl)).trans (aM.le ?_ (cK rfl rfl))) ?_
 ·skip
  repeat (refine AF.le_cons rfl ?_)
  exact AF.le_nil rfl
 ·rintro i f N hi ⟨g,rfl,rfl⟩
  by_cases h1:i < rows.length
  ·have d1:decide ((i:Int) < (rows.length:Int))=true:=by simp;omega
   have hx:rows[i]? =some rows[i]:=List.getElem?_eq_getElem h1
   have fi:=aQ (i:=i) (by omega)
   have hs:=b7 hx
   have hrs:=hsub rows[i] (List.getElem_mem h1)
   generalize rows[i]=r at hx hs hrs
   have lr:((r.kids.map (dW h)).length:Int)=(r.kids.length:Int):=by simp
   repeat' (first|refine zB rfl d1 ?_|refine aA ?_|refine aJ rfl ?_)
   refine zX rfl (c7 hx) ?_
   repeat' (first|refine zI rfl (by first|exact fi|exact lr) ?_|refine zA rfl ?_|refine aA ?_|refine aJ rfl ?_)
   refine aX r.kids.length (fun j f N=>N=a8a g [.sl 1 (r.kids.map (dW h)) .none,.int .i64 ((bF h (r.kids.take j)).length:Int)]∧f=⟨[(3,.sl 1 ((rows.take i).map (dW (h+1))) (.tok 0 g)),(6,.ptr 1 0),(10,.sl 1 (rows.map fun r=>.sl 1 (r.kids.map (dW h)) .none) .full),(11,.int .i64 (rows.length:Int)),(12,.int .i64 (i:Int)),(18,.sl 1 (r.kids.map (dW h)) .none),(19,.int .i64 (r.kids.length:Int)),(20,.int .i64 (j:Int))],[]⟩) (Nat.zero_le _) ⟨rfl,rfl⟩ (aM.le ?_ (P3 rfl rfl rfl)) ?_
   ·skip
    repeat (refine AF.le_cons rfl ?_)
    exact AF.le_nil rfl
   ·rintro j f N hj ⟨rfl,rfl⟩
    by_cases h3:j < r.kids.length
    ·have d3:decide ((j:Int) < (r.kids.length:Int))=true:=by simp;omega
     have hy:r.kids[j]? =some r.kids[j]:=List.getElem?_eq_getElem h3
     have fj:=aQ (i:=j) (by omega)
     have ht:=D2 hy
     have hle:=wQ r.kids (j+1)
     generalize r.kids[j]=y at hy ht
     rw[ht,List.length_append] at hle
     have w1:IntKind.wrap .i64 (((bF h (r.kids.take j)).length:Int)+((bE h y).length:Int))=((bF h (r.kids.take (j+1))).length:Int):=by
      rw[ht,List.length_append]
      exact (Go.Ab.wrap_small (by omega) (by omega)).trans (by omega)
     have ky:=YM h y
     have my:=a8n h
     repeat' (first|refine zB rfl d3 ?_|refine aA ?_|refine aJ rfl ?_)
     refine dT aF rfl rfl rfl rfl rfl rfl rfl rfl rfl rfl (Int.natCast_nonneg _) (g9 hy) ?_
     repeat' (first|refine zA rfl ?_|refine aA ?_|refine aO mixed [2,3,0,1,4,5,6] [.R,.R,.P,.P,.P,.R,.E] rfl rfl (by kernel_rfl) ?_)
     refine dC rfl rfl rfl rfl rfl my ky ?_
     repeat' (first|refine zI rfl (by first|exact fj|exact w1) ?_|refine zA rfl ?_|refine aA ?_|refine aJ rfl ?_)
     refine⟨h3,_,_,⟨rfl,rfl⟩,aM.le ?_ (P3 rfl rfl rfl)⟩
     repeat (refine AF.le_cons rfl ?_)
     exact AF.le_nil rfl
    ·have d3:decide ((j:Int) < (r.kids.length:Int))=false:=by simp;omega
     obtain rfl:j=r.kids.length:=by omega
     repeat' (first|refine zB rfl d3 ?_|refine zI rfl fi ?_|refine zA rfl ?_|refine aA ?_|refine aJ rfl ?_|refine zR rfl ?_|refine zP rfl rfl ?_)
     refine⟨h1,_,_,⟨g+1,rfl,rfl⟩,?_⟩
     refine aM.cut (k:=1) (Nat.zero_le _) (by show 1≤2;omega) rfl ⟨?_,?_,?_,?_,trivial⟩ ⟨by decide,rfl,trivial⟩
     ·rw[hs,←a28 (n:=((bF h (r.kids.take r.kids.length)).length:Int)) (by rw[List.take_length];rfl)]
      refine aH.tok (by decide) ?_
      intro x hx c hc
      have hx':x∈(rows.take i).map (dW (h+1))++[r].map (dW (h+1)):=by
       rw[List.take_length] at hx
       exact hx
      rw[←List.map_append] at hx'
      rw[xP (h+1) _ x hx'] at hc
      simp at hc
      exact hc ▸ rW (h+1) _ x hx'
     ·exact aH.of_closed (BA h rows)
     ·exact aH.of_closed aB
     ·exact aH.of_closed aB
  ·have d1:decide ((i:Int) < (rows.length:Int))=false:=by simp;omega
   obtain rfl:i=rows.length:=by omega
   repeat' (first|refine zB rfl d1 ?_|refine zA rfl ?_|refine aA ?_|refine aJ rfl ?_)
   rw[List.take_length]
   exact⟨rfl,_,rfl,_,rfl,aH.untag (cZ (h+1) _)⟩
theorem E8 (p:Pr) (l:List Pr):aN Tryz.prog 277 [.sl 3 ((p::l).map Pr.av) .none] p.key.av:=by
 refine aT (aY (bO _)) (j9 _) ?_
 refine aC aF Tryz.func277 rfl (by decide) (by simp[Tryz.f277]) ?_
 repeat' (first|refine zA rfl ?_|refine aA ?_|refine aJ rfl ?_)
 refine dT aF rfl rfl rfl rfl rfl rfl rfl rfl rfl rfl (Int.le_refl 0) rfl ?_
 repeat' (first|refine zA rfl ?_|refine aA ?_|refine aJ rfl ?_)
 exact⟨rfl,_,rfl,_,rfl,aH.of_closed (j9 _)⟩
def ME:Nat→FuncId
 |0=>277
 |_+1=>290
theorem NX (h:Nat):fG Tryz.prog (GJ h) "sexton/tree.first" =some (ME h):=by
 cases h
 ·show fG Tryz.prog 175 "sexton/tree.first" =some 277
  kernel_rfl
 ·show fG Tryz.prog 223 "sexton/tree.first" =some 290
  kernel_rfl
theorem TO {h:Nat} {x:Vt h} {l:List (Vt h)} (hx:bE h x≠[]):cY (h+1) (x::l)=cY h x:=by
 unfold cY
 have e:bE (h+1) (x::l)=bE h x++bF h l:=eE x l
 rw[e]
 cases hv:bE h x with
 |nil=>exact absurd hv hx
 |cons p r=>rfl
theorem EZ (h:Nat) (x:Vt h) (l:List (Vt h)) (n:Int) (k:Ky) (hk:aN Tryz.prog (ME h) [uC h x] k.av):aN Tryz.prog 290 [.agg [.sl 1 ((x::l).map (dW h)) .none,.int .i64 n]] k.av:=by
 refine aT (aY (cP (aZ (cZ h _) aB))) (j9 _) ?_
 refine aC aF Tryz.func290 rfl (by decide) (by simp[Tryz.f290]) ?_
 have my:=NX h
 repeat' (first|refine zA rfl ?_|refine aA ?_|refine aJ rfl ?_)
 refine dT aF rfl rfl rfl rfl rfl rfl rfl rfl rfl rfl (Int.le_refl 0) (g9 (l:=x::l) (i:=0) rfl) ?_
 repeat' (first|refine zA rfl ?_)
 refine dC rfl rfl rfl rfl rfl my hk ?_
 repeat' (first|refine zA rfl ?_|refine aA ?_|refine aJ rfl ?_)
 exact⟨rfl,_,rfl,_,rfl,aH.of_closed (j9 _)⟩
theorem vT:∀(h:Nat) (v:Vt h),(h=0→bE h v≠[])→(0 < h→lE h v)→aN Tryz.prog (ME h) [uC h v] (cY h v).av
 |0,l,h0,_=>by
  have hne:l.row≠[]:=h0 rfl
  obtain⟨p,r,hl⟩:∃p r,l.row=p::r:=by
   cases hl:l.row with
   |nil=>exact absurd hl hne
   |cons p r=>exact⟨p,r,rfl⟩
  have e1:uC 0 l=.sl 3 ((p::r).map Pr.av) .none:=by show AV.sl 3 (l.row.map Pr.av) .none=_;rw[hl]
  have e2:cY 0 l=p.key:=by unfold cY;show ((l.row).headD _).key=_;rw[hl];rfl
  rw[e1,e2]
  exact E8 p r
 |h+1,l,_,h1=>by
  obtain⟨k1,k2,k3⟩:=h1 (Nat.succ_pos h)
  obtain⟨x,r,hl⟩:∃x r,l.kids=x::r:=by
   cases hl:l.kids with
   |nil=>rw[hl] at k1;simp at k1
   |cons p r=>exact⟨p,r,rfl⟩
  have hx:lE h x:=k3 x (by rw[hl];simp)
  have hne:=FR h x hx
  have e1:uC (h+1) l=.agg [.sl 1 ((x::r).map (dW h)) .none,.int .i64 ((bE (h+1) l).length:Int)]:=by
   show AV.agg [.sl 1 (l.kids.map (dW h)) .none,.int .i64 ((bE (h+1) l).length:Int)]=_
   rw[hl]
  have e2:cY (h+1) l=cY h x:=(show cY (h+1) l.kids=_ by rw[hl];exact TO hne)
  rw[e1,e2]
  exact EZ h x r _ _ (vT h x (fun _=>hne) (fun _=>hx))
end Go.Proofs.YthnhbmlefiafaaaGreatDoor
