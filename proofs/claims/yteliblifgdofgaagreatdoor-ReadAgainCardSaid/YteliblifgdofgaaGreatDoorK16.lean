/- Parts of the proof, one behind the other. No further condition. -/
import Derived.Test.YteliblifgdofgaaGreatDoorK15
import Derived.Test.YteliblifgdofgaaGreatDoorK13
import Derived.Test.YteliblifgdofgaaGreatDoorK14
import Derived.Test.YteliblifgdofgaaGreatDoorK12
import Derived.Test.YteliblifgdofgaaGreatDoorK09
set_option linter.unusedVariables false
set_option linter.unusedSimpArgs false
set_option maxRecDepth 100000
set_option maxHeartbeats 8000000
namespace Go.Proofs.YteliblifgdofgaaGreatDoor
open Go.Ab
theorem PY:∀(m:List (aD×aD)) (j:Nat) {x:aD×aD},m[j]? =some x→((tI m).take (2*(j+1))).drop (2*j)=[x.1,x.2]
 |[],j,x,h=>by simp at h
 |p::r,0,x,h=>by
  cases h
  rfl
 |p::r,j+1,x,h=>by
  have h1:=PY r j (by simpa using h)
  have e1:2*(j+1+1)=2*(j+1)+1+1:=by omega
  have e2:2*(j+1)=2*j+1+1:=by omega
  rw[e1]
  show ((p.1::p.2::tI r).take (2*(j+1)+1+1)).drop (2*(j+1))=_
  rw[List.take_succ_cons,List.take_succ_cons]
  conv=>lhs;rw[e2]
  rw[List.drop_succ_cons,List.drop_succ_cons,←e2]
  exact h1
theorem RB (l:List aD) (tg:eE):aO Tryz.prog 164 [vR l tg,.int .i64 2] (.fn (.func 203) [] [.ref [vR l tg],.ref [.int .i64 2]]):=by
 intro M
 refine aC aF Tryz.func164 rfl (by decide) (by simp[Tryz.f164]) ?_
 unfold vR
 repeat' (first|refine zA rfl ?_|refine aA ?_|refine aL rfl ?_)
 exact⟨rfl,_,rfl,rfl,rfl⟩
theorem a7x (m:List (aD×aD)) (hm:m.length < 1000000) (y:Nat) (J:List (aD×aD)→aG→Prop) (B:aG→Prop) (M:aG) (hraw:∀L N,J L N→∃o vs t,N.get y=some (.raw none o vs t)) (hY:∀L (x:aD×aD) N,J L N→m[L.length]? =some x→fH Tryz.prog y [.sl 1 [.str x.1,.str x.2] .none] N fun e N'=>(e=.ret (.bool true)∧J (L++[x]) N')∨(e=.ret (.bool false)∧B N')) (h0:J [] M):aQ Tryz.prog 203 [.yld y,.ref [vR (tI m) .none],.ref [.int .i64 2]] M (fun e N=>e=.ret (.tup [])∧(J m N∨B N)):=by
 refine aC aF Tryz.func203 rfl (by decide) (by simp[Tryz.f203]) ?_
 have lu:(((tI m).map AV.str).length:Int)=((2*m.length:Nat):Int):=by rw[List.length_map,sI]
 unfold vR
 repeat' (first|refine zA rfl ?_|refine aA ?_|refine aL rfl ?_)
 refine bC m.length (fun j f N=>J (m.take j) N∧f=⟨[(0,.yld y),(1,.ref [.sl 1 ((tI m).map AV.str) .none]),(2,.ref [.int .i64 2]),(4,.int .i64 ((2*j:Nat):Int))],[]⟩) (Nat.zero_le _) ⟨(by simpa using h0),rfl⟩ (aR.le ?_ (aG.le_refl _)) ?_
 ·skip
  repeat (refine AF.le_cons rfl ?_)
  exact AF.le_nil rfl
 rintro j f N hj ⟨hJ,rfl⟩
 by_cases g1:j < m.length
 ·have d1:decide (((2*j:Nat):Int) < ((2*m.length:Nat):Int))=true:=decide_eq_true (by omega)
  have hx:m[j]? =some m[j]:=List.getElem?_eq_getElem g1
  have ht:=bM hx
  generalize m[j]=x at hx ht
  have hul:=sI m
  have sf:=a3m (f:=AV.str) (l:=tI m) (n:=2*j) (by omega)
  have ld:((((tI m).drop (2*j)).map AV.str).length:Int)=((2*m.length - 2*j:Nat):Int):=by rw[List.length_map,List.length_drop,hul]
  have wm:(if ((2*m.length - 2*j:Nat):Int) < 2 then ((2*m.length - 2*j:Nat):Int) else 2)=(2:Int):=if_neg (by omega)
  have w3:IntKind.wrap .i64 (((2*j:Nat):Int)+2)=((2*(j+1):Nat):Int):=(Go.Ab.wrap_small (by omega) (by omega)).trans (by omega)
  obtain⟨o,vs,t0,hr⟩:=hraw _ _ hJ
  repeat' (first|refine zB rfl d1 ?_|refine zI rfl (by first|exact lu|exact ld|exact wm|exact w3) ?_|refine zA rfl ?_|refine aA ?_|refine aL rfl ?_|refine m7 aF rfl (sf) ?_|refine aW mixed [2,0,1,3,4,5,6] [.R,.R,.P,.P,.P,.P,.P] rfl rfl (by kernel_rfl) ?_)
  refine a0a aF rfl (ys:=[.str x.1,.str x.2]) ⟨by omega,by omega,by rw[List.length_map,hul];omega,?_⟩ rfl ?_
  ·rw[Int.toNat_natCast,Int.toNat_natCast,←List.map_take,←List.map_drop,PY m j hx]
   rfl
  refine a2v rfl hr (hY (m.take j) x N hJ (by rw[List.length_take,Nat.min_eq_left (by omega)];exact hx)) ?_ (by rintro u M' (⟨h,_⟩|⟨h,_⟩)<;>cases h)
  rintro u M' (⟨h,hJ'⟩|⟨h,hB⟩)
  ·cases h
   repeat' (first|refine zI rfl w3 ?_|refine zA rfl ?_|refine aA ?_|refine aL rfl ?_)
   refine⟨g1,_,_,⟨by rw[ht];exact hJ',rfl⟩,aR.le ?_ (aG.le_refl _)⟩
   skip
   repeat (refine AF.le_cons rfl ?_)
   exact AF.le_nil rfl
  ·cases h
   repeat' (first|refine zA rfl ?_|refine aA ?_|refine aL rfl ?_)
   exact⟨rfl,_,rfl,rfl,.inr hB⟩
 ·have d1:decide (((2*j:Nat):Int) < ((2*m.length:Nat):Int))=false:=decide_eq_false (by omega)
  obtain rfl:j=m.length:=by omega
  rw[List.take_length] at hJ
  repeat' (first|refine zB rfl d1 ?_|refine zI rfl lu ?_|refine zA rfl ?_|refine aA ?_|refine aL rfl ?_)
  exact⟨rfl,_,rfl,rfl,.inl hJ⟩
theorem a15 (m:List (aD×aD)) (hm:m.length < 1000000):TC Tryz.prog 203 [.ref [vR (tI m) .none],.ref [.int .i64 2]] (fun x:aD×aD=>[.sl 1 [.str x.1,.str x.2] .none]) (fun L x=>m[L.length]? =some x) m:=
 fun y J B M hraw hY h0=>a7x m hm y J B M hraw hY h0
structure GI (L:List (aD×aD)) (N:aG):Prop where
 g0:N.get 0=some (.cells [.sl 0 [] .full])
 g1:N.get 1=some (.cells [.int .i64 0])
 g3:N.get 3=some kL
 nx:5≤N.next
 ok:∀x,x∈L→(bY x.2).2.2=0
 row:(L=[]∧N.get 2=some (.cells [.sl 0 [] .full]))∨∃id g,5≤id∧id < N.next∧N.get 2=some (.cells [.sl 5 ((L.map oF).map Ch.av) (.tok id g)])∧N.get id=some (.spare g)
structure GS (m:List (aD×aD)) (N:aG):Prop where
 g0:N.get 0=some (.cells [.sl 0 [] .full])
 g1:N.get 1=some (.cells [.int .i64 30])
 g3:N.get 3=some kL
 bad:∃x,x∈m∧(bY x.2).2.2≠0
def gK (O:c7) (L:List (aD×aD)) (N:aG):Prop:=N.get 4=some O∧GI L N
theorem US {N:aG} {O1 Z C S R O:c7} {j:Nat} (h:j < N.next) (h2:j≠2) (h4:j≠4):((((((N.set 4 O1).push Z).set N.next C).push S).set 2 R).set 4 O).get j=N.get j:=by
 rw[aG.get_set,if_neg h4,aG.get_set,if_neg h2,uG h,if_neg h4]
theorem YS {N:aG} {O1 Z C S R O:c7} {j id:Nat} (h:j < N.next) (h2:j≠2) (h4:j≠4) (hi:j≠id):((((((N.set 4 O1).push Z).set N.next C).set id S).set 2 R).set 4 O).get j=N.get j:=by
 rw[aG.get_set,if_neg h4,aG.get_set,if_neg h2,aG.get_set,if_neg hi,g8 h,if_neg h4]
theorem rU {M:aG} {x y:AV} {t:List (Nat×AV)} (h2:AF.get ⟨t,[]⟩ 2=.ptr 0 0) (h3:AF.get ⟨t,[]⟩ 3=.ptr 1 0) (g0:M.get 0=some (.cells [x])) (g1:M.get 1=some (.cells [y])):i5 iR M ⟨t,[]⟩ Tryz.f121.results=some (.tup [x,y]):=by
 have a1:cX M iR 38 (.ptr 0 0)=some x:=by
  simp only[cX,g0]
  rfl
 have a2:cX M iR 33 (.ptr 1 0)=some y:=by
  simp only[cX,g1]
  rfl
 show i5 iR M ⟨t,[]⟩ #[.cell 2 38,.cell 3 33]=_
 simp only[i5,t7,mP,h2,h3,a1,a2]
theorem a34 (s:aD) (hs:s.length < 1000000):aO Tryz.prog 121 [.str s] (gcA (mG s)):=by
 refine aU (aX aP) (LF _) ?_
 refine n9 aF Tryz.func121 rfl (by decide) (by simp[Tryz.f121]) ?_
 have kr:=KO s (by omega)
 cases ho:mW s with
 |none=>
  rw[ho] at kr
  rw[WN ho]
  unfold grA vR at kr
  repeat' (first|refine zA rfl ?_|refine aA ?_|refine aL rfl ?_|refine aH rfl kr ?_)
  exact⟨_,rfl,_,rfl,oN⟩
 |some p=>
  obtain⟨l,r⟩:=p
  obtain⟨_,_,hl,hb⟩:=GU ho
  rw[ho] at kr
  have la:=bA AV.str l
  unfold grA vR at kr
  by_cases hr:r=[]
  ·subst hr
   have d3:(!(([]:aD)==[]))=false:=rfl
   have w2:=aB2 l.length (by omega)
   by_cases h2:l.length%2=0
   ·have d4:(!decide (((l.length%2:Nat):Int)=0))=false:=by simp;omega
    obtain⟨m,rfl⟩:=Y0 (l.length/2) l (by omega)
    have lu:=sI m
    rw[lu] at la hl w2 d4
    have kc:=RB (tI m) .none
    unfold vR at kc
    repeat' (first|refine zB rfl (by first|exact d3|exact d4) ?_|refine zI rfl la ?_|refine zA rfl ?_|refine aA ?_|refine aL rfl ?_|refine aH rfl kr ?_|refine aH rfl kc ?_)
    refine W.le (g:=⟨[(2,.ptr 0 0),(3,.ptr 1 0),(7,.ptr 2 0),(31,.fn (.func 203) [] [.ref [vR (tI m) .none],.ref [.int .i64 2]])],[]⟩) (N:=⟨3,[(0,.cells [.sl 0 [] .full]),(1,.cells [.int .i64 0]),(2,.cells [.sl 0 [] .full])]⟩) ?_ ?_ ?_
    ·unfold vR
     repeat (refine AF.le_cons rfl ?_)
     exact AF.le_nil rfl
    ·exact aG.le_cons rfl (aG.le_cons rfl (aG.le_cons rfl (aG.le_nil rfl)))
    refine V9 rfl (a15 m (by omega)) gK (GS m) (fun _=>rfl) rfl ?_ ?_ ?_ ?_ ?_
    ·rintro O L N ⟨hO,_⟩
     exact hO
    ·intro O
     exact⟨rfl,rfl,rfl,rfl,Nat.le_refl 5,fun x hx=>(by cases hx),.inl ⟨rfl,rfl⟩⟩
    ·rintro O O1 L x N l ⟨hO,hG⟩ hok
     have hm:=List.mem_of_getElem? hok
     have hLl:=(List.getElem?_eq_some_iff.1 hok).1
     obtain⟨hm1,hm2⟩:=PS hm
     have b2:=hb _ hm2
     have kd:=wP x.2 (by omega)
     have hnx:=hG.nx
     unfold rmA at kd
     repeat' (first|refine zA rfl ?_|refine aA ?_|refine aL rfl ?_)
     refine⟨hO,?_⟩
     show W _ _ _ _ _ _ (N.set 4 O1)
     repeat' (first|refine zA rfl ?_|refine aL rfl ?_|refine aH rfl kd ?_|refine zX rfl (⟨by decide,rfl⟩) ?_)
     refine jW aF gM rfl ?_
     by_cases h0:(bY x.2).2.2=0
     ·have d0:(!decide ((bY x.2).2.2=0))=false:=by simp[h0]
      have hok2:∀y,y∈L++[x]→(bY y.2).2.2=0:=fun y hy=>by
       rcases List.mem_append.1 hy with hy|hy
       ·exact hG.ok y hy
       ·simp at hy
        subst hy
        exact h0
      repeat' (first|refine zB rfl d0 ?_|refine zA rfl ?_|refine aA ?_|refine aL rfl ?_|refine aW mixed [1,4,0,2,3,5,6,7,8,9] [.R,.P,.R,.R,.P,.R,.P,.P,.E,.E] rfl rfl (by kernel_rfl) ?_)
      rcases hG.row with ⟨rfl,h2⟩|⟨id,g,hid,hidn,h2,hsp⟩
      ·refine oI aF ((g8 (j:=2) (by omega)).trans h2) rfl ?_
       repeat' (first|refine zA rfl ?_|refine zX rfl (⟨by decide,rfl⟩) ?_)
       refine oI aF cM rfl ?_
       repeat' (first|refine zA rfl ?_|refine zR rfl ?_)
       refine OS aF rfl (by simp) (by simp) ?_
       refine jW aF ((uG (N:=N) (it:=4) (I:=O1) (j:=2) (by omega)).trans h2) rfl ?_
       repeat' (first|refine aA ?_)
       refine⟨?_,.inl ⟨rfl,cM,?_,?_,?_,?_,hok2,.inr ⟨N.next+1,0,by omega,?_,?_,?_⟩⟩⟩
       ·show aG.get (aG.set _ 2 _) 4=some O1
        rw[aG.get_set,if_neg (by decide)]
        exact (uG (N:=N) (it:=4) (I:=O1) (j:=4) (by omega)).trans (if_pos rfl)
       ·exact (US (by omega) (by decide) (by decide)).trans hG.g0
       ·exact (US (by omega) (by decide) (by decide)).trans hG.g1
       ·exact (US (by omega) (by decide) (by decide)).trans hG.g3
       ·show 5≤N.next+1+1
        omega
       ·show N.next+1 < N.next+1+1
        omega
       ·rw[aG.get_set,if_neg (by decide),aG.get_set,if_pos rfl]
        rfl
       ·show aG.get (aG.set (aG.set _ 2 _) 4 _) (N.next+1)=_
        rw[aG.get_set,if_neg (by omega),aG.get_set,if_neg (by omega)]
        exact gM
      ·refine oI aF ((g8 (j:=2) (by omega)).trans h2) rfl ?_
       repeat' (first|refine zA rfl ?_|refine zX rfl (⟨by decide,rfl⟩) ?_)
       refine oI aF cM rfl ?_
       repeat' (first|refine zA rfl ?_|refine zR rfl ?_)
       refine pX aF rfl rfl rfl rfl rfl ((g8 (j:=id) hidn).trans ((if_neg (by omega)).trans hsp)) rfl rfl rfl rfl rfl rfl rfl rfl rfl (by simp;omega) (by simp;omega) ?_
       refine jW (id:=2) aF (show (aG.set _ id _).get 2=some (.cells [.sl 5 ((L.map oF).map Ch.av) (.tok id g)]) from by rw[aG.get_set,if_neg (by omega)];exact (g8 (j:=2) (by omega)).trans h2) rfl ?_
       repeat' (first|refine aA ?_)
       refine⟨?_,.inl ⟨rfl,cM,?_,?_,?_,?_,hok2,.inr ⟨id,g+1,hid,?_,?_,?_⟩⟩⟩
       ·show aG.get (aG.set (aG.set _ id _) 2 _) 4=some O1
        rw[aG.get_set,if_neg (by decide),aG.get_set,if_neg (by omega)]
        exact (g8 (N:=N) (it:=4) (I:=O1) (j:=4) (by omega)).trans (if_pos rfl)
       ·exact (YS (by omega) (by decide) (by decide) (by omega)).trans hG.g0
       ·exact (YS (by omega) (by decide) (by decide) (by omega)).trans hG.g1
       ·exact (YS (by omega) (by decide) (by decide) (by omega)).trans hG.g3
       ·show 5≤N.next+1
        omega
       ·show id < N.next+1
        omega
       ·rw[aG.get_set,if_neg (by decide),aG.get_set,if_pos rfl,a8x]
        rfl
       ·show aG.get (aG.set (aG.set (aG.set _ id _) 2 _) 4 _) id=_
        rw[aG.get_set,if_neg (by omega),aG.get_set,if_neg (by omega),aG.get_set,if_pos rfl]
     ·have d0:(!decide ((bY x.2).2.2=0))=true:=by simp[h0]
      repeat' (first|refine zB rfl d0 ?_|refine zA rfl ?_|refine aA ?_|refine aL rfl ?_)
      refine jW aF ((g8 (j:=0) (by omega)).trans hG.g0) rfl ?_
      refine jW (id:=1) (l:=[.int .i64 0]) aF (by rw[aG.get_set,if_neg (by decide)];exact (g8 (j:=1) (by omega)).trans hG.g1) rfl ?_
      repeat' (first|refine aA ?_|refine aL rfl ?_)
      refine⟨?_,.inr ⟨rfl,?_,?_,?_,⟨x,hm,h0⟩⟩⟩
      ·show aG.get (aG.set (aG.set _ 0 _) 1 _) 4=some O1
       rw[aG.get_set,if_neg (by decide),aG.get_set,if_neg (by decide)]
       exact (g8 (N:=N) (it:=4) (I:=O1) (j:=4) (by omega)).trans (if_pos rfl)
      ·rw[aG.get_set,if_neg (by decide),aG.get_set,if_pos rfl]
      ·rw[aG.get_set,if_pos rfl]
      ·rw[aG.get_set,if_neg (by decide),aG.get_set,if_neg (by decide)]
       exact (g8 (by omega)).trans hG.g3
    ·rintro O N ⟨hO,hG⟩
     refine⟨N.drop 4,aG.drop_le,by rw[aG.get_drop];rfl,?_⟩
     have gd:∀j,j≠4→(N.drop 4).get j=N.get j:=fun j hj=>by rw[aG.get_drop,if_neg hj]
     have hcl:=gQ (m.map oF) (t:=.none) (.inl rfl)
     have hsh:∀c,c∈m.map oF→gP c:=fun c hc=>by
      obtain⟨x,hx,rfl⟩:=List.mem_map.1 hc
      exact NT (hb _ (PS hx).1) (hG.ok x hx)
     rcases hG.row with ⟨rfl,hr2⟩|⟨id,g,hid,hidn,hr2,hsp⟩
     ·rw[O7 ho hG.ok rfl]
      have kb:=(yB [] .none (by decide) (fun c hc=>by cases hc)).sub (args:=[.sl 0 [] .full]) ⟨Sub.nil,trivial⟩
      repeat' (first|refine aL rfl ?_)
      refine oI aF ((gd 2 (by decide)).trans hr2) rfl ?_
      repeat' (first|refine zA rfl ?_|refine aA ?_|refine aL rfl ?_|refine aH rfl kb ?_)
      refine jW aF ((gd 0 (by decide)).trans hG.g0) rfl ?_
      refine jW (id:=1) (l:=[.int .i64 0]) aF (by rw[aG.get_set,if_neg (by decide)];exact (gd 1 (by decide)).trans hG.g1) rfl ?_
      repeat' (first|refine aA ?_|refine aL rfl ?_)
      refine uP (N:=aG.drop _ 3) ?_ aG.drop_le (by rw[aG.get_drop];rfl) ⟨_,rU (x:=.sl 0 [] .full) (y:=.int .i64 30) rfl rfl ?_ ?_,_,rfl,oN⟩
      ·rw[aG.get_set,if_neg (by decide),aG.get_set,if_neg (by decide)]
       exact (gd 3 (by decide)).trans hG.g3
      ·rw[aG.get_drop,if_neg (by decide),aG.get_set,if_neg (by decide),aG.get_set,if_pos rfl]
      ·rw[aG.get_drop,if_neg (by decide),aG.get_set,if_pos rfl]
     ·have hll:m.length < 1000000:=by omega
      have kb:=yB (m.map oF) (.tok id g) (by rw[List.length_map];exact hll) hsh
      unfold mU at kb hcl
      cases h:d8 (m.map oF)
      ·rw[h] at kb
       rw[O7 ho hG.ok h]
       repeat' (first|refine aL rfl ?_)
       refine oI aF ((gd 2 (by decide)).trans hr2) rfl ?_
       repeat' (first|refine zA rfl ?_|refine aA ?_|refine aL rfl ?_|refine aH rfl kb ?_)
       refine jW aF ((gd 0 (by decide)).trans hG.g0) rfl ?_
       refine jW (id:=1) (l:=[.int .i64 0]) aF (by rw[aG.get_set,if_neg (by decide)];exact (gd 1 (by decide)).trans hG.g1) rfl ?_
       repeat' (first|refine aA ?_|refine aL rfl ?_)
       refine uP (N:=aG.drop _ 3) ?_ aG.drop_le (by rw[aG.get_drop];rfl) ⟨_,rU (x:=.sl 0 [] .full) (y:=.int .i64 30) rfl rfl ?_ ?_,_,rfl,oN⟩
       ·rw[aG.get_set,if_neg (by decide),aG.get_set,if_neg (by decide)]
        exact (gd 3 (by decide)).trans hG.g3
       ·rw[aG.get_drop,if_neg (by decide),aG.get_set,if_neg (by decide),aG.get_set,if_pos rfl]
       ·rw[aG.get_drop,if_neg (by decide),aG.get_set,if_pos rfl]
      ·rw[h] at kb
       rw[UX ho hG.ok h]
       repeat' (first|refine aL rfl ?_)
       refine oI aF ((gd 2 (by decide)).trans hr2) rfl ?_
       repeat' (first|refine zA rfl ?_|refine aA ?_|refine aL rfl ?_|refine aH rfl kb ?_)
       refine oI aF ((gd 2 (by decide)).trans hr2) rfl ?_
       refine jW aF ((gd 0 (by decide)).trans hG.g0) rfl ?_
       refine jW (id:=1) (l:=[.int .i64 0]) aF (by rw[aG.get_set,if_neg (by decide)];exact (gd 1 (by decide)).trans hG.g1) rfl ?_
       repeat' (first|refine aA ?_|refine aL rfl ?_)
       refine uP (N:=aG.drop _ 3) ?_ aG.drop_le (by rw[aG.get_drop];rfl) ⟨_,rU (x:=.sl 5 ((m.map oF).map Ch.av) (.tok id g)) (y:=.int .i64 0) rfl rfl ?_ ?_,_,rfl,aI.tup2 (aI.untag hcl) (aI.of_closed aB)⟩
       ·rw[aG.get_set,if_neg (by decide),aG.get_set,if_neg (by decide)]
        exact (gd 3 (by decide)).trans hG.g3
       ·rw[aG.get_drop,if_neg (by decide),aG.get_set,if_neg (by decide),aG.get_set,if_pos rfl]
       ·rw[aG.get_drop,if_neg (by decide),aG.get_set,if_pos rfl]
    ·intro O N hS
     obtain⟨x,hx,hbad⟩:=hS.bad
     rw[Y8 ho hx hbad]
     refine⟨(N.set 4 O).drop 4,aG.drop_le,by rw[aG.get_drop];rfl,?_⟩
     have gd:∀j,j≠4→((N.set 4 O).drop 4).get j=N.get j:=fun j hj=>by rw[aG.get_drop,if_neg hj,aG.get_set,if_neg hj]
     refine uP (N:=((N.set 4 O).drop 4).drop 3) ((gd 3 (by decide)).trans hS.g3) aG.drop_le (by rw[aG.get_drop];rfl) ⟨_,rU rfl rfl ?_ ?_,_,rfl,oN⟩
     ·rw[aG.get_drop]
      exact (gd 0 (by decide)).trans hS.g0
     ·rw[aG.get_drop]
      exact (gd 1 (by decide)).trans hS.g1
   ·have d4:(!decide (((l.length%2:Nat):Int)=0))=true:=by simp;omega
    rw[ID ho (fun h=>h2 h.2)]
    repeat' (first|refine zB rfl (by first|exact d3|exact d4) ?_|refine zI rfl la ?_|refine zA rfl ?_|refine aA ?_|refine aL rfl ?_|refine aH rfl kr ?_)
    exact⟨_,rfl,_,rfl,oN⟩
  ·have d3:(!(r==[]))=true:=by simp[hr]
   rw[ID ho (fun h=>hr h.1)]
   repeat' (first|refine zB rfl d3 ?_|refine zA rfl ?_|refine aA ?_|refine aL rfl ?_|refine aH rfl kr ?_)
   exact⟨_,rfl,_,rfl,oN⟩
theorem IY {l:List Ch} (h:d8 l=true):l.length≤20∧∀c,c∈l→gP c:=by
 obtain⟨_,h2,h3,_⟩:=kG h
 refine⟨h2,fun c hc=>?_⟩
 obtain⟨_,h5,h6,_⟩:=mD (h3 c hc)
 have h7:=uU h5
 unfold pT at h6
 simp only[Bool.and_eq_true,decide_eq_true_eq] at h6
 exact⟨by omega,by omega⟩
structure Oo where
 client:Int
 seq:Int
 kind:Int
 session:Int
 at_:Int
 ch:List Ch
deriving DecidableEq
def Oo.cells (o:Oo):List AV:=[.int .i64 o.client,.int .i64 o.seq,.int .i64 o.kind,.int .i64 o.session,.int .i64 o.at_,mU o.ch .none]
def Oo.av (o:Oo):AV:=.agg o.cells
theorem qA (o:Oo):∀x,x∈o.cells→aN x:=aY aB (aY aB (aY aB (bK aB aB (gQ _ (.inl rfl)))))
theorem fP (o:Oo):aN o.av:=bU (qA o)
def yQ (n m:Int):Bool:=decide (0≤n)&&decide (n≤m)
def D2 (o:Oo):Bool:=if o.kind=1 then d8 o.ch&&decide (o.session=0)&&decide (o.at_=0) else if o.kind=2 then decide ((o.ch.length:Int)=0) else if o.kind=3 then decide ((o.ch.length:Int)=0)&&decide (o.at_=0) else if o.kind=4 then decide ((o.ch.length:Int)=0)&&decide (o.session=0) else false
def iB (o:Oo):Bool:=yQ o.client 1000000&&!decide (o.seq < 1)&&yQ o.seq 1000000000&&yQ o.session 1000000&&yQ o.at_ 1000000000&&D2 o
def cY (o:Oo):Prop:=o.ch.length < 1000000∧∀c,c∈o.ch→gP c
theorem mC (n m:Int):aO Tryz.prog 93 [.int .i64 n,.int .i64 m] (.bool (yQ n m)):=by
 intro M
 refine aC aF Tryz.func93 rfl (by decide) (by simp[Tryz.f93]) ?_
 unfold yQ
 have e:decide (n≥0)=decide (0≤n):=rfl
 cases h:decide (0≤n)
 ·repeat' (first|refine zB rfl h ?_|refine zA rfl ?_|refine aA ?_|refine aL rfl ?_)
  exact⟨rfl,_,rfl,rfl,rfl⟩
 ·repeat' (first|refine zB rfl h ?_|refine zA rfl ?_|refine aA ?_|refine aL rfl ?_)
  exact⟨rfl,_,rfl,rfl,rfl⟩
theorem FF (o:Oo) (ho:cY o):aO Tryz.prog 55 [o.av] (.bool (iB o)):=by
 intro M
 refine aC aF Tryz.func55 rfl (by decide) (by simp[Tryz.f55]) ?_
 have la:=bA Ch.av o.ch
 have k1:=mC o.client 1000000
 have k2:=mC o.seq 1000000000
 have k3:=mC o.session 1000000
 have k4:=mC o.at_ 1000000000
 have kb:=yB o.ch .none ho.1 ho.2
 unfold iB D2
 unfold mU at kb
 generalize yQ o.client 1000000=b1 at*
 generalize yQ o.seq 1000000000=b3 at*
 generalize yQ o.session 1000000=b4 at*
 generalize yQ o.at_ 1000000000=b5 at*
 generalize d8 o.ch=b6 at*
 cases b1
 ·repeat' (first|refine zA rfl ?_|refine aA ?_|refine aL rfl ?_|refine aH rfl k1 ?_)
  exact⟨rfl,_,rfl,rfl,rfl⟩
 cases d2:decide (o.seq < 1)
 case true=>
  repeat' (first|refine zB rfl d2 ?_|refine zA rfl ?_|refine aA ?_|refine aL rfl ?_|refine aH rfl k1 ?_)
  exact⟨rfl,_,rfl,rfl,rfl⟩
 cases b3
 ·repeat' (first|refine zB rfl d2 ?_|refine zA rfl ?_|refine aA ?_|refine aL rfl ?_|refine aH rfl k1 ?_|refine aH rfl k2 ?_)
  exact⟨rfl,_,rfl,rfl,rfl⟩
 cases b4
 ·repeat' (first|refine zB rfl d2 ?_|refine zA rfl ?_|refine aA ?_|refine aL rfl ?_|refine aH rfl k1 ?_|refine aH rfl k2 ?_|refine aH rfl k3 ?_)
  exact⟨rfl,_,rfl,rfl,rfl⟩
 cases b5
 ·repeat' (first|refine zB rfl d2 ?_|refine zA rfl ?_|refine aA ?_|refine aL rfl ?_|refine aH rfl k1 ?_|refine aH rfl k2 ?_|refine aH rfl k3 ?_|refine aH rfl k4 ?_)
  exact⟨rfl,_,rfl,rfl,rfl⟩
 by_cases h1:o.kind=1
 ·have e1:decide (o.kind=1)=true:=by simp[h1]
  rw[if_pos h1]
  cases b6
  ·repeat' (first|refine zB rfl (by first|exact d2|exact e1) ?_|refine zI rfl la ?_|refine zA rfl ?_|refine aA ?_|refine aL rfl ?_|refine aH rfl k1 ?_|refine aH rfl k2 ?_|refine aH rfl k3 ?_|refine aH rfl k4 ?_|refine aH rfl kb ?_|refine aW mixed [0,1,2,10,3,4,5,11,6,7,8,9,12] [.R,.R,.P,.R,.R,.P,.R,.R,.P,.P,.P,.P,.P] rfl rfl (by kernel_rfl) ?_)
   exact⟨rfl,_,rfl,rfl,rfl⟩
  ·cases d3:decide (o.session=0)
   ·repeat' (first|refine zB rfl (by first|exact d2|exact d3|exact e1) ?_|refine zI rfl la ?_|refine zA rfl ?_|refine aA ?_|refine aL rfl ?_|refine aH rfl k1 ?_|refine aH rfl k2 ?_|refine aH rfl k3 ?_|refine aH rfl k4 ?_|refine aH rfl kb ?_|refine aW mixed [0,1,2,10,3,4,5,11,6,7,8,9,12] [.R,.R,.P,.R,.R,.P,.R,.R,.P,.P,.P,.P,.P] rfl rfl (by kernel_rfl) ?_)
    exact⟨rfl,_,rfl,rfl,rfl⟩
   ·repeat' (first|refine zB rfl (by first|exact d2|exact d3|exact e1) ?_|refine zI rfl la ?_|refine zA rfl ?_|refine aA ?_|refine aL rfl ?_|refine aH rfl k1 ?_|refine aH rfl k2 ?_|refine aH rfl k3 ?_|refine aH rfl k4 ?_|refine aH rfl kb ?_|refine aW mixed [0,1,2,10,3,4,5,11,6,7,8,9,12] [.R,.R,.P,.R,.R,.P,.R,.R,.P,.P,.P,.P,.P] rfl rfl (by kernel_rfl) ?_)
    exact⟨rfl,_,rfl,rfl,rfl⟩
 have e1:decide (o.kind=1)=false:=by simp[h1]
 rw[if_neg h1]
 by_cases h2:o.kind=2
 ·have e2:decide (o.kind=2)=true:=by simp[h2]
  rw[if_pos h2]
  repeat' (first|refine zB rfl (by first|exact d2|exact e1|exact e2) ?_|refine zI rfl la ?_|refine zA rfl ?_|refine aA ?_|refine aL rfl ?_|refine aH rfl k1 ?_|refine aH rfl k2 ?_|refine aH rfl k3 ?_|refine aH rfl k4 ?_|refine aW mixed [0,1,2,10,3,4,5,11,6,7,8,9,12] [.R,.R,.P,.R,.R,.P,.R,.R,.P,.P,.P,.P,.P] rfl rfl (by kernel_rfl) ?_)
  exact⟨rfl,_,rfl,rfl,rfl⟩
 have e2:decide (o.kind=2)=false:=by simp[h2]
 rw[if_neg h2]
 cases d5:decide ((o.ch.length:Int)=0)
 all_goals
  by_cases h3:o.kind=3
  ·have e3:decide (o.kind=3)=true:=by simp[h3]
   rw[if_pos h3]
   repeat' (first|refine zB rfl (by first|exact d2|exact d5|exact e1|exact e2|exact e3) ?_|refine zI rfl la ?_|refine zA rfl ?_|refine aA ?_|refine aL rfl ?_|refine aH rfl k1 ?_|refine aH rfl k2 ?_|refine aH rfl k3 ?_|refine aH rfl k4 ?_|refine aW mixed [0,1,2,10,3,4,5,11,6,7,8,9,12] [.R,.R,.P,.R,.R,.P,.R,.R,.P,.P,.P,.P,.P] rfl rfl (by kernel_rfl) ?_)
   exact⟨rfl,_,rfl,rfl,rfl⟩
  have e3:decide (o.kind=3)=false:=by simp[h3]
  rw[if_neg h3]
  by_cases h4:o.kind=4
  ·have e4:decide (o.kind=4)=true:=by simp[h4]
   rw[if_pos h4]
   repeat' (first|refine zB rfl (by first|exact d2|exact d5|exact e1|exact e2|exact e3|exact e4) ?_|refine zI rfl la ?_|refine zA rfl ?_|refine aA ?_|refine aL rfl ?_|refine aH rfl k1 ?_|refine aH rfl k2 ?_|refine aH rfl k3 ?_|refine aH rfl k4 ?_|refine aW mixed [0,1,2,10,3,4,5,11,6,7,8,9,12] [.R,.R,.P,.R,.R,.P,.R,.R,.P,.P,.P,.P,.P] rfl rfl (by kernel_rfl) ?_)
   exact⟨rfl,_,rfl,rfl,rfl⟩
  have e4:decide (o.kind=4)=false:=by simp[h4]
  rw[if_neg h4]
  repeat' (first|refine zB rfl (by first|exact d2|exact d5|exact e1|exact e2|exact e3|exact e4) ?_|refine zI rfl la ?_|refine zA rfl ?_|refine aA ?_|refine aL rfl ?_|refine aH rfl k1 ?_|refine aH rfl k2 ?_|refine aH rfl k3 ?_|refine aH rfl k4 ?_|refine aW mixed [0,1,2,10,3,4,5,11,6,7,8,9,12] [.R,.R,.P,.R,.R,.P,.R,.R,.P,.P,.P,.P,.P] rfl rfl (by kernel_rfl) ?_)
  exact⟨rfl,_,rfl,rfl,rfl⟩
def E3 (o:Oo):Bool:=MO o.ch||decide (25 < o.ch.length)
def nZ (l:List Oo):Bool:=decide (30 < l.length)||l.any E3
theorem JP {l:List Oo} (h:nZ l=false):l.length≤30∧∀o,o∈l→E3 o=false:=by
 unfold nZ at h
 simp only[Bool.or_eq_false_iff,decide_eq_false_iff_not,List.any_eq_false] at h
 exact⟨by omega,fun o ho=>by simpa using h.2 o ho⟩
def AU (l:List Oo) (t:eE):AV:=.sl 6 (l.map Oo.av) t
theorem iL (l:List Oo) {t:eE} (h:t=.none∨t=.full):aN (AU l t):=bR h (fun x hx=>by obtain⟨p,_,rfl⟩:=List.mem_map.1 hx;exact fP p) (fun x hx=>by obtain⟨p,_,rfl⟩:=List.mem_map.1 hx;exact qA p)
theorem JK (l:List Oo) (tg:eE) (hl:l.length < 4611686018427387904) (hs:∀o,o∈l→o.ch.length < 4611686018427387904):aO Tryz.prog 6 [AU l tg] (.bool (nZ l)):=by
 intro M
 refine aC aF Tryz.func6 rfl (by decide) (by simp[Tryz.f6]) ?_
 have la:=bA Oo.av l
 unfold AU
 by_cases h30:l.length≤30
 ·have d30:decide ((l.length:Int)≤30)=true:=decide_eq_true (by omega)
  have d31:decide ((l.length:Int) > 30)=false:=decide_eq_false (by omega)
  have e30:decide (30 < l.length)=false:=decide_eq_false (by omega)
  repeat' (first|refine zA rfl ?_|refine aA ?_|refine aL rfl ?_)
  refine bC l.length (fun i f N=>N=M∧(∀(j:Nat) y,j < i→l[j]? =some y→E3 y=false)∧f=⟨[(0,.sl 6 (l.map Oo.av) tg),(3,.int .i64 (i:Int))],[]⟩) (Nat.zero_le _) ⟨rfl,(fun j y hj=>absurd hj (Nat.not_lt_zero _)),rfl⟩ (aR.le ?_ (aG.le_refl _)) ?_
  ·skip
   repeat (refine AF.le_cons rfl ?_)
   exact AF.le_nil rfl
  rintro i f N hi ⟨rfl,hno,rfl⟩
  by_cases g1:i < l.length
  ·have d1:decide ((i:Int) < (l.length:Int))=true:=decide_eq_true (by omega)
   have hx:l[i]? =some l[i]:=List.getElem?_eq_getElem g1
   have fi:=aZ (i:=i) (by omega)
   have hxs:=hs l[i] (List.getElem_mem g1)
   have hm:=List.getElem_mem g1
   generalize l[i]=x at hx hxs hm
   have lx:=bA Ch.av x.ch
   have k:=a32 x.ch .none hxs
   unfold mU at k
   have d6:decide ((x.ch.length:Int) > 25)=decide (25 < x.ch.length):=decide_eq_decide.2 (by omega)
   have eb:E3 x=(MO x.ch||decide (25 < x.ch.length)):=rfl
   have hit:E3 x=true→nZ l=true:=fun h=>by
    unfold nZ
    rw[List.any_eq_true.2 ⟨x,hm,h⟩,Bool.or_true]
   have nxt:E3 x=false→∀(j:Nat) y,j < i+1→l[j]? =some y→E3 y=false:=fun h j y hj hy=>by
    by_cases hji:j=i
    ·subst hji
     rw[hx] at hy
     cases hy
     exact h
    ·exact hno j y (by omega) hy
   generalize MO x.ch=b1 at k eb
   generalize decide (25 < x.ch.length)=b2 at d6 eb
   cases b1
   ·cases b2
    ·repeat' (first|refine zB rfl (by first|exact d1|exact d30|exact d6) ?_|refine zI rfl (by first|exact la|exact fi|exact lx) ?_|refine zA rfl ?_|refine aA ?_|refine aL rfl ?_|refine aH rfl k ?_|refine zX rfl (fB hx) ?_)
     refine⟨g1,_,_,⟨rfl,nxt eb,rfl⟩,aR.le ?_ (aG.le_refl _)⟩
     repeat (refine AF.le_cons rfl ?_)
     exact AF.le_nil rfl
    ·rw[hit eb]
     repeat' (first|refine zB rfl (by first|exact d1|exact d30|exact d6) ?_|refine zI rfl (by first|exact la|exact lx) ?_|refine zA rfl ?_|refine aA ?_|refine aL rfl ?_|refine aH rfl k ?_|refine zX rfl (fB hx) ?_)
     exact⟨rfl,_,rfl,rfl,rfl⟩
   ·rw[hit (by rw[eb];rfl)]
    repeat' (first|refine zB rfl (by first|exact d1|exact d30) ?_|refine zI rfl la ?_|refine zA rfl ?_|refine aA ?_|refine aL rfl ?_|refine aH rfl k ?_|refine zX rfl (fB hx) ?_)
    exact⟨rfl,_,rfl,rfl,rfl⟩
  ·have d1:decide ((i:Int) < (l.length:Int))=false:=decide_eq_false (by omega)
   obtain rfl:i=l.length:=by omega
   have e:nZ l=false:=by
    unfold nZ
    rw[e30,Bool.false_or,List.any_eq_false]
    intro y hy
    obtain⟨j,hj⟩:=List.mem_iff_getElem?.1 hy
    simp[hno j y (List.getElem?_eq_some_iff.1 hj).1 hj]
   rw[e]
   repeat' (first|refine zB rfl (by first|exact d1|exact d31) ?_|refine zI rfl la ?_|refine zA rfl ?_|refine aA ?_|refine aL rfl ?_)
   exact⟨rfl,_,rfl,rfl,rfl⟩
 ·have d30:decide ((l.length:Int)≤30)=false:=decide_eq_false (by omega)
  have d31:decide ((l.length:Int) > 30)=true:=decide_eq_true (by omega)
  have d1:decide ((0:Int) < (l.length:Int))=true:=decide_eq_true (by omega)
  have e:nZ l=true:=by
   unfold nZ
   rw[decide_eq_true (by omega:30 < l.length)]
   rfl
  rw[e]
  repeat' (first|refine zA rfl ?_|refine aA ?_|refine aL rfl ?_)
  refine bC 0 (fun i f N=>N=M∧f=⟨[(0,.sl 6 (l.map Oo.av) tg),(3,.int .i64 0)],[]⟩) (Nat.le_refl _) ⟨rfl,rfl⟩ (aR.le ?_ (aG.le_refl _)) ?_
  ·skip
   repeat (refine AF.le_cons rfl ?_)
   exact AF.le_nil rfl
  rintro i f N hi ⟨rfl,rfl⟩
  repeat' (first|refine zB rfl (by first|exact d1|exact d30|exact d31) ?_|refine zI rfl la ?_|refine zA rfl ?_|refine aA ?_|refine aL rfl ?_)
  exact⟨rfl,_,rfl,rfl,rfl⟩
structure Pr where
 key:Ky
 val:aD
deriving DecidableEq
def Pr.av (p:Pr):AV:=.agg [.str p.key.path,.int .i64 p.key.time,.str p.val]
theorem fI (a:Ky):bI a a=false:=by
 cases h:bI a a
 ·rfl
 ·exact h.symm.trans (gT h)
theorem vY {a b c:Ky} (h1:bI a b=true) (h2:bI c b=false):bI a c=true:=by
 by_cases h:b=c
 ·exact h ▸ h1
 ·rcases vS h with h3|h3
  ·exact j8 h1 h3
  ·rw[h3] at h2;cases h2
abbrev bT (l:List Pr):Prop:=l.Pairwise fun a b=>bI a.key b.key=true
def cQ:List Pr→Pr→List Pr
 |[],p=>[p]
 |q::r,p=>if bI q.key p.key=true then q::cQ r p else if q.key=p.key then p::r else p::q::r
def dA:List Pr→Ky→List Pr
 |[],_=>[]
 |q::r,k=>if bI q.key k=true then q::dA r k else if q.key=k then r else q::r
def dF (l:List Pr) (k:Ky):List Pr:=l.dropWhile fun p=>bI p.key k
def dN (l:List Pr) (k:Ky):Nat:=(l.takeWhile fun p=>bI p.key k).length
theorem zL {l:List Pr} {p x:Pr} (h:x∈cQ l p):x=p∨x∈l:=by
 induction l with
 |nil=>simpa [cQ] using h
 |cons q r ih=>
  simp only[cQ] at h
  split at h
  ·rcases List.mem_cons.1 h with h|h
   ·exact .inr (by simp[h])
   ·rcases ih h with h|h
    ·exact .inl h
    ·exact .inr (by simp[h])
  ·split at h
   ·rcases List.mem_cons.1 h with h|h
    ·exact .inl h
    ·exact .inr (by simp[h])
   ·rcases List.mem_cons.1 h with h|h
    ·exact .inl h
    ·exact .inr h
theorem RY {l:List Pr} {p:Pr} (h:bT l):bT (cQ l p):=by
 induction l with
 |nil=>simp[cQ,bT]
 |cons q r ih=>
  obtain⟨h1,h2⟩:=List.pairwise_cons.1 h
  simp only[cQ]
  split
  ·rename_i hq
   refine List.pairwise_cons.2 ⟨fun x hx=>?_,ih h2⟩
   rcases zL hx with rfl|hx
   ·exact hq
   ·exact h1 x hx
  ·rename_i hq
   split
   ·rename_i he
    refine List.pairwise_cons.2 ⟨fun x hx=>?_,h2⟩
    rw[←he]
    exact h1 x hx
   ·rename_i he
    have hpq:bI p.key q.key=true:=(vS he).resolve_left hq
    refine List.pairwise_cons.2 ⟨fun x hx=>?_,h⟩
    rcases List.mem_cons.1 hx with rfl|hx
    ·exact hpq
    ·exact j8 hpq (h1 x hx)
theorem uE (l:List Pr) (k:Ky):(dA l k).Sublist l:=by
 induction l with
 |nil=>exact List.Sublist.refl _
 |cons q r ih=>
  simp only[dA]
  split
  ·exact ih.cons_cons q
  ·split
   ·exact List.sublist_cons_self q r
   ·exact List.Sublist.refl _
theorem y4 {l:List Pr} {k:Ky} (h:bT l):bT (dA l k):=h.sublist (uE l k)
theorem R4 (l:List Pr) (k:Ky):l.length≤(dA l k).length+1:=by
 induction l with
 |nil=>simp
 |cons q r ih=>
  simp only[dA]
  split
  ·simp;omega
  ·split<;>simp
theorem yV {a b:List Pr} {p:Pr} (h:∀x,x∈a→bI x.key p.key=true):cQ (a++b) p=a++cQ b p:=by
 induction a with
 |nil=>rfl
 |cons q r ih=>
  show cQ (q::(r++b)) p=_
  rw[cQ,if_pos (h q (by simp)),ih (fun x hx=>h x (by simp[hx]))]
  rfl
theorem GT {a b:List Pr} {k:Ky} (h:∀x,x∈a→bI x.key k=true):dA (a++b) k=a++dA b k:=by
 induction a with
 |nil=>rfl
 |cons q r ih=>
  show dA (q::(r++b)) k=_
  rw[dA,if_pos (h q (by simp)),ih (fun x hx=>h x (by simp[hx]))]
  rfl
theorem vF {a b:List Pr} {k:Ky} (h:∀x,x∈a→bI x.key k=true):dF (a++b) k=dF b k:=by
 induction a with
 |nil=>rfl
 |cons q r ih=>
  unfold dF at ih ⊢
  rw[List.cons_append,List.dropWhile_cons,if_pos (h q (by simp)),ih (fun x hx=>h x (by simp[hx]))]
theorem GX {a b:List Pr} {p:Pr} (h:∀x,x∈b→bI p.key x.key=true):cQ (a++b) p=cQ a p++b:=by
 induction a with
 |nil=>
  cases b with
  |nil=>rfl
  |cons q r=>
   have hq:=h q (by simp)
   show cQ (q::r) p=p::(q::r)
   rw[cQ,if_neg (by rw[gT hq];simp),if_neg]
   intro he
   rw[he,fI] at hq
   cases hq
 |cons q r ih=>
  show cQ (q::(r++b)) p=cQ (q::r) p++b
  rw[cQ,cQ,ih]
  split
  ·rfl
  ·split<;>rfl
theorem FP {a b:List Pr} {k:Ky} (h:∀x,x∈b→bI k x.key=true):dA (a++b) k=dA a k++b:=by
 induction a with
 |nil=>
  cases b with
  |nil=>rfl
  |cons q r=>
   have hq:=h q (by simp)
   show dA (q::r) k=q::r
   rw[dA,if_neg (by rw[gT hq];simp),if_neg]
   intro he
   rw[he,fI] at hq
   cases hq
 |cons q r ih=>
  show dA (q::(r++b)) k=dA (q::r) k++b
  rw[dA,dA,ih]
  split
  ·rfl
  ·split<;>rfl
theorem sG {a b:List Pr} {k:Ky} (h:∀x,x∈b→bI x.key k=false):dF (a++b) k=dF a k++b:=by
 induction a with
 |nil=>
  cases b with
  |nil=>rfl
  |cons q r=>
   show dF (q::r) k=q::r
   unfold dF
   rw[List.dropWhile_cons,if_neg (by rw[h q (by simp)];simp)]
 |cons q r ih=>
  unfold dF at ih ⊢
  rw[List.cons_append,List.dropWhile_cons,List.dropWhile_cons,ih]
  split<;>rfl
def Vt:Nat→Type
 |0=>List Pr
 |h+1=>List (Vt h)
abbrev Vt.row (l:Vt 0):List Pr:=l
abbrev Vt.kids {h:Nat} (l:Vt (h+1)):List (Vt h):=l
def bE:(h:Nat)→Vt h→List Pr
 |0,l=>l
 |h+1,l=>(l.kids.map (bE h)).flatten
abbrev bH (h:Nat) (l:List (Vt h)):List Pr:=(l.map (bE h)).flatten
def eY:(h:Nat)→Vt h→Nat
 |0,l=>l.row.length
 |_+1,l=>l.kids.length
def kQ:(h:Nat)→Vt h→Prop
 |0,l=>2≤l.row.length∧l.row.length≤4
 |h+1,l=>2≤l.kids.length∧l.kids.length≤4∧∀k,k∈l.kids→kQ h k
def KG:(h:Nat)→Vt h→Prop
 |0,l=>l.row.length≤4
 |h+1,l=>kQ (h+1) l
def bB {α:Type} (l:List α):List (List α):=if l.length≤4 then [l] else [l.take (l.length/2),l.drop (l.length/2)]
def cS (h:Nat) (v:Vt h):Ky:=((bE h v).headD ⟨⟨[],0⟩,[]⟩).key
def bL {h:Nat} (l:List (Vt h)) (k:Ky):Nat:=(l.findIdx fun v=>bI k (cS h v)) - 1
def dS {α:Type} (l:List α) (i many:Nat) (m:List α):List α:=l.take i++(m++l.drop (i+many))
def gW:(h:Nat)→Vt h→Pr→List (Vt h)
 |0,l,p=>bB (cQ l.row p)
 |h+1,l,p=>bB (dS l.kids (bL l.kids p.key) 1 (match l.kids[bL l.kids p.key]? with
  |some kid=>gW h kid p
  |none=>[]))
def eD:(h:Nat)→Vt h→Vt h→List (Vt h)
 |0,a,b=>bB (a.row++b.row)
 |_+1,a,b=>bB (a.kids++b.kids)
def Y2 {h:Nat} (l:List (Vt h)) (i:Nat) (kid:Vt h):List (Vt h):=
 if 2≤eY h kid then dS l i 1 [kid]
 else if 0 < i then (match l[i - 1]? with
  |some y=>dS l (i - 1) 2 (eD h y kid)
  |none=>l)
 else (match l[1]? with
  |some y=>dS l 0 2 (eD h kid y)
  |none=>l)
def bD:(h:Nat)→Vt h→Ky→Vt h
 |0,l,k=>dA l.row k
 |h+1,l,k=>match l.kids[bL l.kids k]? with
  |none=>l
  |some x=>Y2 l.kids (bL l.kids k) (bD h x k)
theorem EV:∀(h:Nat) (v:Vt h),kQ h v→bE h v≠[]
 |0,l,hv=>by
  intro he
  have h1:2≤l.row.length:=hv.1
  have h2:l.row=[]:=he
  rw[h2] at h1
  simp at h1
 |h+1,l,hv=>by
  obtain⟨h1,h2,h3⟩:=hv
  intro he
  have he':(l.kids.map (bE h)).flatten=[]:=he
  cases hl:l.kids with
  |nil=>rw[hl] at h1;simp at h1
  |cons a r=>
   rw[hl] at he'
   simp only[List.map_cons,List.flatten_cons,List.append_eq_nil_iff] at he'
   exact EV h a (h3 a (by rw[hl];simp)) he'.1
theorem j4 {h:Nat} {v:Vt h} (hv:kQ h v):KG h v:=by
 cases h with
 |zero=>exact hv.2
 |succ h=>exact hv
theorem DD {h:Nat} {v:Vt h} (hv:kQ h v):∃p,p∈bE h v∧p.key=cS h v:=by
 have:=EV h v hv
 unfold cS
 cases hl:bE h v with
 |nil=>exact absurd hl this
 |cons q r=>exact⟨q,by simp,rfl⟩
theorem VM {h:Nat} {v:Vt h} (hr:bT (bE h v)):∀p,p∈bE h v→bI p.key (cS h v)=false:=by
 unfold cS
 cases hl:bE h v with
 |nil=>simp
 |cons q r=>
  rw[hl] at hr
  intro p hp
  rcases List.mem_cons.1 hp with rfl|hp
  ·exact fI _
  ·exact gT ((List.pairwise_cons.1 hr).1 p hp)
theorem K4 {α:Type} (l:List α):(bB l).flatten=l:=by
 unfold bB
 split<;>simp
theorem fZ {α:Type} (l:List α):(bB l).length=if l.length≤4 then 1 else 2:=by
 unfold bB
 split<;>rfl
theorem p8 {α:Type} {l:List α} (h2:2≤l.length) (h8:l.length≤8):∀x,x∈bB l→2≤x.length∧x.length≤4∧∀y,y∈x→y∈l:=by
 intro x hx
 unfold bB at hx
 split at hx
 ·simp at hx;subst hx
  exact⟨h2,by omega,fun y h=>h⟩
 ·simp at hx
  rcases hx with rfl|rfl
  ·exact⟨by simp;omega,by simp;omega,fun y h=>List.mem_of_mem_take h⟩
  ·exact⟨by simp;omega,by simp;omega,fun y h=>List.mem_of_mem_drop h⟩
theorem FU {α:Type} {l:List α} (h:l.length≤4):bB l=[l]:=by
 unfold bB
 rw[if_pos h]
theorem vL (l:List Pr):bH 0 (bB l:List (Vt 0))=l:=by
 have:bH 0 (bB l:List (Vt 0))=(bB l).flatten:=by
  have e:(bB l:List (Vt 0)).map (bE 0)=bB l:=List.map_id (α:=List Pr) (bB l)
  exact congrArg List.flatten e
 rw[this,K4]
theorem vT {h:Nat} (l:List (Vt h)):bH (h+1) (bB l:List (Vt (h+1)))=bH h l:=by
 unfold bB
 split
 ·show (bE (h+1) l::[]).flatten=_
  simp[bE,Vt.kids]
 ·show (bE (h+1) (l.take (l.length/2))::bE (h+1) (l.drop (l.length/2))::[]).flatten=_
  show (bH h (l.take (l.length/2)))++((bH h (l.drop (l.length/2)))++[])=_
  unfold bH
  rw[List.append_nil,←List.flatten_append,←List.map_append,List.take_append_drop]
theorem bQ {h:Nat} (a b:List (Vt h)):bH h (a++b)=bH h a++bH h b:=by simp[bH]
theorem jT {h:Nat} {l:List (Vt h)} (h0:l≠[]) (hk:∀v,v∈l→kQ h v) (hr:bT (bH h l)) (k:Ky):
  ∃(a:List (Vt h)) (v:Vt h) (b:List (Vt h)),l=a++v::b∧bL l k=a.length∧l[bL l k]? =some v∧(∀x,x∈bH h a→bI x.key k=true)∧(∀x,x∈bH h b→bI k x.key=true):=by
 have hlt:bL l k < l.length:=by
  have h1:(l.findIdx fun v=>bI k (cS h v))≤l.length:=List.findIdx_le_length
  have h2:0 < l.length:=List.length_pos_iff.2 h0
  unfold bL
  omega
 refine⟨l.take (bL l k),l[bL l k],l.drop (bL l k+1),?_,by simp;omega,List.getElem?_eq_getElem hlt,?_,?_⟩
 ·have:=List.take_append_drop (bL l k) l
  rw[List.drop_eq_getElem_cons hlt] at this
  exact this.symm
 ·intro x hx
  by_cases h0':bL l k=0
  ·rw[h0'] at hx
   simp[bH] at hx
  ·-- the one is not behind k: all ahead of it are ahead of k
   have hi:bL l k < (l.findIdx fun v=>bI k (cS h v)):=by unfold bL at h0' ⊢;omega
   have hnot:=List.not_of_lt_findIdx hi
   have hv:=hk l[bL l k] (List.getElem_mem hlt)
   obtain⟨q,hq,hqk⟩:=DD hv
   have hl:bH h l=bH h (l.take (bL l k))++(bE h l[bL l k]++bH h (l.drop (bL l k+1))):=by
    have e:l=l.take (bL l k)++([l[bL l k]]++l.drop (bL l k+1)):=by
     have:=List.take_append_drop (bL l k) l
     rw[List.drop_eq_getElem_cons hlt] at this
     exact this.symm
    conv=>lhs;rw[e]
    rw[bQ,bQ]
    simp[bH]
   rw[hl] at hr
   have h3:=(List.pairwise_append.1 hr).2.2 x hx q (by simp[hq])
   rw[hqk] at h3
   have h4:bI k (cS h l[bL l k])=false:=by simpa using hnot
   exact vY h3 h4
 ·intro x hx
  by_cases h1:(l.findIdx fun v=>bI k (cS h v)) < l.length
  ·have h2:=List.findIdx_getElem (w:=h1)
   generalize hj:(l.findIdx fun v=>bI k (cS h v))=j at h1 h2
   have hv:=hk l[j] (List.getElem_mem h1)
   have hge:j≤bL l k+1:=by unfold bL;omega
   have hx':x∈bH h (l.drop j):=by
    unfold bH at hx ⊢
    simp only[List.mem_flatten,List.mem_map] at hx ⊢
    obtain⟨r,⟨v,hv1,rfl⟩,hv2⟩:=hx
    refine⟨_,⟨v,?_,rfl⟩,hv2⟩
    have:l.drop (bL l k+1)=(l.drop j).drop (bL l k+1 - j):=by
     rw[List.drop_drop];congr 1;omega
    rw[this] at hv1
    exact List.mem_of_mem_drop hv1
   have hd:l.drop j=l[j]::l.drop (j+1):=List.drop_eq_getElem_cons h1
   rw[hd] at hx'
   have hr2:bT (bH h (l[j]::l.drop (j+1))):=by
    rw[←hd]
    have e:bH h l=bH h (l.take j)++bH h (l.drop j):=by rw[←bQ,List.take_append_drop]
    rw[e] at hr
    exact (List.pairwise_append.1 hr).2.1
   have e2:bH h (l[j]::l.drop (j+1))=bE h l[j]++bH h (l.drop (j+1)):=by unfold bH;rw[List.map_cons,List.flatten_cons]
   rw[e2] at hr2 hx'
   rcases List.mem_append.1 hx' with hx'|hx'
   ·exact vY h2 (VM (List.pairwise_append.1 hr2).1 x hx')
   ·obtain⟨q,hq,hqk⟩:=DD hv
    have h3:=(List.pairwise_append.1 hr2).2.2 q hq x hx'
    rw[hqk] at h3
    exact j8 h2 h3
  ·exfalso
   have h1':(l.findIdx fun v=>bI k (cS h v))=l.length:=by
    have:(l.findIdx fun v=>bI k (cS h v))≤l.length:=List.findIdx_le_length
    omega
   have h2:0 < l.length:=List.length_pos_iff.2 h0
   have:l.drop (bL l k+1)=[]:=by
    rw[List.drop_eq_nil_iff]
    unfold bL
    omega
   rw[this] at hx
   simp[bH] at hx
theorem tG {α:Type} {a b m:List α} {x:α}:dS (a++x::b) a.length 1 m=a++(m++b):=by
 unfold dS
 rw[List.take_left,List.drop_append]
 simp
theorem dU {h:Nat} (v:Vt h) (b:List (Vt h)):bH h (v::b)=bE h v++bH h b:=by unfold bH;rw[List.map_cons,List.flatten_cons]
theorem A6 {h:Nat} (v:Vt h):bH h [v]=bE h v:=by unfold bH;simp
theorem lV {a b c:List Pr} (h:bT (a++(b++c))):bT b:=(List.pairwise_append.1 (List.pairwise_append.1 h).2.1).1
theorem x8:∀(h:Nat) (v:Vt h) (p:Pr),KG h v→bT (bE h v)→bH h (gW h v p)=cQ (bE h v) p∧(gW h v p).length≤2∧1≤(gW h v p).length
 |0,l,p,hv,hr=>by
  refine⟨vL _,?_,?_⟩
  ·show (bB (cQ l.row p)).length≤2
   rw[fZ];split<;>omega
  ·show 1≤(bB (cQ l.row p)).length
   rw[fZ];split<;>omega
 |h+1,l,p,hv,hr=>by
  obtain⟨h1,h2,h3⟩:=hv
  have h0:l.kids≠[]:=by intro he;rw[he] at h1;simp at h1
  obtain⟨a,v,b,e1,e2,e3,e4,e5⟩:=jT h0 h3 hr p.key
  have hv:kQ h v:=h3 v (by rw[e1];simp)
  have hall:bE (h+1) l=bH h a++(bE h v++bH h b):=by
   show bH h l.kids=_
   rw[e1,bQ,dU]
  have hrv:bT (bE h v):=by
   rw[hall] at hr
   exact lV hr
  obtain⟨i1,_,_⟩:=x8 h v p (j4 hv) hrv
  have hp:gW (h+1) l p=(bB (a++(gW h v p++b)):List (List (Vt h))):=by
   show bB (dS l.kids (bL l.kids p.key) 1 (match l.kids[bL l.kids p.key]? with
    |some kid=>gW h kid p
    |none=>[]))=_
   rw[e3,e2]
   congr 1
   simp only
   have:dS l.kids a.length 1 (gW h v p)=dS (a++v::b) a.length 1 (gW h v p):=by rw[←e1]
   rw[this,tG]
  refine⟨?_,?_,?_⟩
  ·rw[hp]
   refine (vT _).trans ?_
   rw[bQ,bQ,i1,hall,yV e4,GX e5]
  ·rw[hp]
   show (bB _).length≤2
   rw[fZ];split<;>omega
  ·rw[hp]
   show 1≤(bB _).length
   rw[fZ];split<;>omega
theorem jX (l:List Pr) (p:Pr):l.length≤(cQ l p).length∧(cQ l p).length≤l.length+1∧1≤(cQ l p).length:=by
 induction l with
 |nil=>simp[cQ]
 |cons q r ih=>
  simp only[cQ]
  split
  ·simp;omega
  ·split<;>simp
theorem nN (l:List Pr) (k:Ky):(dA l k).length≤l.length:=(uE l k).length_le
theorem W3 {h:Nat} {l:Vt (h+1)} {p:Pr} (hv:kQ (h+1) l) (hr:bT (bE (h+1) l)):
  ∃(a:List (Vt h)) (v:Vt h) (b:List (Vt h)),l.kids=a++v::b∧kQ h v∧bT (bE h v)∧bL l.kids p.key=a.length∧gW (h+1) l p=(bB (a++(gW h v p++b)):List (List (Vt h))):=by
 obtain⟨h1,h2,h3⟩:=hv
 have h0:l.kids≠[]:=by intro he;rw[he] at h1;simp at h1
 obtain⟨a,v,b,e1,e2,e3,e4,e5⟩:=jT h0 h3 hr p.key
 have hv:kQ h v:=h3 v (by rw[e1];simp)
 have hall:bE (h+1) l=bH h a++(bE h v++bH h b):=by
  show bH h l.kids=_
  rw[e1,bQ,dU]
 refine⟨a,v,b,e1,hv,?_,e2,?_⟩
 ·rw[hall] at hr
  exact lV hr
 ·show bB (dS l.kids (bL l.kids p.key) 1 (match l.kids[bL l.kids p.key]? with
   |some kid=>gW h kid p
   |none=>[]))=_
  rw[e3,e2]
  congr 1
  simp only
  have:dS l.kids a.length 1 (gW h v p)=dS (a++v::b) a.length 1 (gW h v p):=by rw[←e1]
  rw[this,tG]
theorem EX:∀(h:Nat) (v:Vt h) (p:Pr),kQ h v→bT (bE h v)→∀x,x∈gW h v p→kQ h x
 |0,l,p,hv,hr=>by
  intro x hx
  have hx':x.row∈bB (cQ l.row p):=hx
  have h1:2≤l.row.length:=hv.1
  have h2:l.row.length≤4:=hv.2
  have h3:=jX l.row p
  have h4:=p8 (by omega) (by omega) x.row hx'
  exact⟨h4.1,h4.2.1⟩
 |h+1,l,p,hv,hr=>by
  intro x hx
  obtain⟨a,v,b,e1,e2,e3,_,e4⟩:=W3 (p:=p) hv hr
  rw[e4] at hx
  have hx':x.kids∈bB (a++(gW h v p++b)):=hx
  obtain⟨h1,h2,h3⟩:=hv
  rw[e1] at h1 h2
  simp at h1 h2
  have h5:=x8 h v p (j4 e2) e3
  have h4:=p8 (l:=a++(gW h v p++b)) (by simp;omega) (by simp;omega) x.kids hx'
  refine⟨h4.1,h4.2.1,fun k hk=>?_⟩
  rcases List.mem_append.1 (h4.2.2 k hk) with h6|h6
  ·exact h3 k (by rw[e1];simp[h6])
  ·rcases List.mem_append.1 h6 with h6|h6
   ·exact EX h v p e2 e3 k h6
   ·exact h3 k (by rw[e1];simp[h6])
theorem VK {h:Nat} {v:Vt h} {p:Pr} (hv:KG h v) (hr:bT (bE h v)):
  (∃x,gW h v p=[x]∧KG h x∧bE h x=cQ (bE h v) p)∨(∃x y,gW h v p=[x,y]∧kQ h x∧kQ h y∧bE h x++bE h y=cQ (bE h v) p):=by
 obtain⟨h1,h2,h3⟩:=x8 h v p hv hr
 have hok:∀x y,gW h v p=[x,y]→kQ h x∧kQ h y:=by
  intro x y he
  cases h with
  |zero=>
   have he':bB (cQ v.row p)=[x.row,y.row]:=he
   have h4:=jX v.row p
   have h5:v.row.length≤4:=hv
   unfold bB at he'
   split at he'
   ·simp at he'
   ·rename_i h6
    simp at he'
    obtain⟨e1,e2⟩:=he'
    have l1:x.row.length=(cQ v.row p).length/2:=by rw[←e1];simp;omega
    have l2:y.row.length=(cQ v.row p).length - (cQ v.row p).length/2:=by rw[←e2];simp
    exact⟨⟨by show 2≤x.row.length;omega,by show x.row.length≤4;omega⟩,⟨by show 2≤y.row.length;omega,by show y.row.length≤4;omega⟩⟩
  |succ h=>
   have:=EX (h+1) v p hv hr
   exact⟨this x (by rw[he];simp),this y (by rw[he];simp)⟩
 have hone:∀x,gW h v p=[x]→KG h x:=by
  intro x he
  cases h with
  |zero=>
   have he':bB (cQ v.row p)=[x.row]:=he
   unfold bB at he'
   split at he'
   ·rename_i h6
    simp at he'
    show x.row.length≤4
    rw[←he'];exact h6
   ·simp at he'
  |succ h=>exact EX (h+1) v p hv hr x (by rw[he];simp)
 cases hp:gW h v p with
 |nil=>rw[hp] at h3;simp at h3
 |cons x r=>
  cases r with
  |nil=>
   rw[hp] at h1
   exact .inl ⟨x,rfl,hone x hp,by simpa [bH] using h1⟩
  |cons y s=>
   cases s with
   |nil=>
    rw[hp] at h1
    exact .inr ⟨x,y,rfl,(hok x y hp).1,(hok x y hp).2,by simpa [bH] using h1⟩
   |cons z s=>rw[hp] at h2;simp at h2
def okD:(h:Nat)→Vt h→Prop
 |0,l=>1≤l.row.length∧l.row.length≤4
 |h+1,l=>1≤l.kids.length∧l.kids.length≤4∧∀k,k∈l.kids→kQ h k
theorem IB:∀(h:Nat) (a b:Vt h),bH h (eD h a b)=bE h a++bE h b
 |0,a,b=>vL _
 |h+1,a,b=>(vT _).trans (bQ _ _)
theorem EY:∀(h:Nat) (a b:Vt h),okD h a→okD h b→3≤eY h a+eY h b→∀x,x∈eD h a b→kQ h x
 |0,a,b,ha,hb,hs=>by
  intro x hx
  have hx':x.row∈bB (a.row++b.row):=hx
  have a1:a.row.length≤4:=ha.2
  have b1:b.row.length≤4:=hb.2
  have hs':3≤a.row.length+b.row.length:=hs
  have h4:=p8 (l:=a.row++b.row) (by simp;omega) (by simp;omega) x.row hx'
  exact⟨h4.1,h4.2.1⟩
 |h+1,a,b,ha,hb,hs=>by
  intro x hx
  have hx':x.kids∈bB (a.kids++b.kids):=hx
  have a1:a.kids.length≤4:=ha.2.1
  have b1:b.kids.length≤4:=hb.2.1
  have hs':3≤a.kids.length+b.kids.length:=hs
  have h4:=p8 (l:=a.kids++b.kids) (by simp;omega) (by simp;omega) x.kids hx'
  refine⟨h4.1,h4.2.1,fun k hk=>?_⟩
  rcases List.mem_append.1 (h4.2.2 k hk) with h6|h6
  ·exact ha.2.2 k h6
  ·exact hb.2.2 k h6
theorem s5 (h:Nat) (a b:Vt h) (hs:eY h a+eY h b≤5):(eD h a b).length=if eY h a+eY h b≤4 then 1 else 2:=by
 cases h with
 |zero=>
  show (bB (a.row++b.row)).length=_
  rw[fZ,List.length_append]
  rfl
 |succ h=>
  show (bB (a.kids++b.kids)).length=_
  rw[fZ,List.length_append]
  rfl
theorem OF {h:Nat} {v:Vt h} (hv:kQ h v):okD h v:=by
 cases h with
 |zero=>exact⟨by have:2≤v.row.length:=hv.1;omega,hv.2⟩
 |succ h=>exact⟨by have:2≤v.kids.length:=hv.1;omega,hv.2⟩
theorem PW {h:Nat} {v:Vt h} (hv:okD h v) (h2:2≤eY h v):kQ h v:=by
 cases h with
 |zero=>exact⟨h2,hv.2⟩
 |succ h=>exact⟨h2,hv.2⟩
theorem sC {h:Nat} {v:Vt h} (hv:kQ h v):2≤eY h v∧eY h v≤4:=by
 cases h with
 |zero=>exact⟨hv.1,hv.2⟩
 |succ h=>exact⟨hv.1,hv.2.1⟩
theorem G8 {h:Nat} {v:Vt h} (hv:okD h v):1≤eY h v∧eY h v≤4:=by
 cases h with
 |zero=>exact⟨hv.1,hv.2⟩
 |succ h=>exact⟨hv.1,hv.2.1⟩
theorem D6 {h:Nat} {l:Vt (h+1)} {k:Ky} (hv:kQ (h+1) l) (hr:bT (bE (h+1) l)):
  ∃(a:List (Vt h)) (v:Vt h) (b:List (Vt h)),l.kids=a++v::b∧bL l.kids k=a.length∧kQ h v∧bT (bE h v)∧(∀x,x∈bH h a→bI x.key k=true)∧(∀x,x∈bH h b→bI k x.key=true)∧
   ((2≤eY h (bD h v k)∧bD (h+1) l k=(a++(bD h v k::b):List (Vt h)))∨
    (¬2≤eY h (bD h v k)∧∃c y,a=c++[y]∧bD (h+1) l k=(c++(eD h y (bD h v k)++b):List (Vt h)))∨
    (¬2≤eY h (bD h v k)∧a=[]∧∃y c,b=y::c∧bD (h+1) l k=(eD h (bD h v k) y++c:List (Vt h)))):=by
 obtain⟨h1,h2,h3⟩:=hv
 have h0:l.kids≠[]:=by intro he;rw[he] at h1;simp at h1
 obtain⟨a,v,b,e1,e2,e3,e4,e5⟩:=jT h0 h3 hr k
 have hv:kQ h v:=h3 v (by rw[e1];simp)
 have hall:bE (h+1) l=bH h a++(bE h v++bH h b):=by
  show bH h l.kids=_
  rw[e1,bQ,dU]
 refine⟨a,v,b,e1,e2,hv,?_,e4,e5,?_⟩
 ·rw[hall] at hr
  exact lV hr
 ·have hd:bD (h+1) l k=Y2 l.kids a.length (bD h v k):=by
   rw[bD,e3,e2]
  rw[hd]
  generalize bD h v k=kid
  unfold Y2
  by_cases hs:2≤eY h kid
  ·refine .inl ⟨hs,?_⟩
   rw[if_pos hs,e1]
   exact tG
  ·refine .inr ?_
   rw[if_neg hs]
   by_cases ha:a=[]
   ·subst ha
    refine .inr ⟨hs,rfl,?_⟩
    cases b with
    |nil=>rw[e1] at h1;simp at h1
    |cons y c=>
     refine⟨y,c,rfl,?_⟩
     rw[if_neg (by simp),e1]
     rfl
   ·refine .inl ⟨hs,a.dropLast,a.getLast ha,(List.dropLast_concat_getLast ha).symm,?_⟩
    have hpos:0 < a.length:=List.length_pos_iff.2 ha
    rw[if_pos hpos]
    have e6:l.kids[a.length - 1]? =some (a.getLast ha):=by
     rw[e1,List.getElem?_append_left (by omega),List.getLast_eq_getElem,List.getElem?_eq_getElem]
    rw[e6]
    simp only
    rw[e1]
    unfold dS
    have e7:a.length - 1+2=a.length+1:=by omega
    rw[e7,List.take_append_of_le_length (by omega),←List.dropLast_eq_take]
    congr 2
    rw[List.drop_append]
    simp
theorem nW:∀(h:Nat) (v:Vt h) (k:Ky),KG h v→bT (bE h v)→bE h (bD h v k)=dA (bE h v) k∧(kQ h v→okD h (bD h v k))∧eY h (bD h v k)≤eY h v
 |0,l,k,hv,hr=>by
  refine⟨rfl,fun h=>?_,nN _ _⟩
  have h1:2≤l.row.length:=h.1
  have h2:l.row.length≤4:=h.2
  have h3:=R4 l.row k
  have h4:=nN l.row k
  exact⟨by show 1≤(dA l.row k).length;omega,by show (dA l.row k).length≤4;omega⟩
 |h+1,l,k,hv,hr=>by
  obtain⟨a,v,b,e1,e2,e3,e4,e5,e6,e7⟩:=D6 (k:=k) hv hr
  obtain⟨i1,i2,i3⟩:=nW h v k (j4 e3) e4
  have i2:=i2 e3
  have hall:bE (h+1) l=bH h a++(bE h v++bH h b):=by
   show bH h l.kids=_
   rw[e1,bQ,dU]
  have hgoal:dA (bE (h+1) l) k=bH h a++(bE h (bD h v k)++bH h b):=by
   rw[hall,GT e5,FP e6,i1]
  obtain⟨h1,h2,h3⟩:=hv
  rw[e1] at h1 h2
  simp at h1 h2
  have hsz:eY (h+1) l=a.length+(b.length+1):=by
   show l.kids.length=_
   rw[e1];simp
  have hok:∀x,x∈a∨x∈b→kQ h x:=by
   intro x hx
   refine h3 x ?_
   rw[e1]
   rcases hx with hx|hx<;>simp[hx]
  have hd:=G8 i2
  rcases e7 with ⟨hs,hd1⟩|⟨hs,c,y,rfl,hd1⟩|⟨hs,rfl,y,c,rfl,hd1⟩
  ·rw[hd1,hgoal,hsz]
   refine⟨?_,fun _=>⟨?_,?_,?_⟩,?_⟩
   ·show bH h (a++(bD h v k::b))=_
    rw[bQ,dU]
   ·show 1≤(a++(bD h v k::b)).length
    simp;omega
   ·show (a++(bD h v k::b)).length≤4
    simp;omega
   ·intro x hx
    have hx':x∈a++(bD h v k::b):=hx
    simp at hx'
    rcases hx' with hx'|rfl|hx'
    ·exact hok x (.inl hx')
    ·exact PW i2 hs
    ·exact hok x (.inr hx')
   ·show (a++(bD h v k::b)).length≤_
    simp
  ·have hy:=OF (hok y (.inl (by simp)))
   have hys:=sC (hok y (.inl (by simp)))
   have hj:=EY h y (bD h v k) hy i2 (by omega)
   have hjl:=s5 h y (bD h v k) (by omega)
   have hjl':1≤(eD h y (bD h v k)).length∧(eD h y (bD h v k)).length≤2:=by
    rw[hjl];split<;>omega
   simp at h1 h2 hsz
   rw[hd1,hgoal,hsz]
   refine⟨?_,fun _=>⟨?_,?_,?_⟩,?_⟩
   ·show bH h (c++(eD h y (bD h v k)++b))=_
    rw[bQ,bQ,IB,bQ,A6]
    simp
   ·show 1≤(c++(eD h y (bD h v k)++b)).length
    simp;omega
   ·show (c++(eD h y (bD h v k)++b)).length≤4
    simp;omega
   ·intro x hx
    have hx':x∈c++(eD h y (bD h v k)++b):=hx
    simp at hx'
    rcases hx' with hx'|hx'|hx'
    ·exact hok x (.inl (by simp[hx']))
    ·exact hj x hx'
    ·exact hok x (.inr hx')
   ·show (c++(eD h y (bD h v k)++b)).length≤_
    simp;omega
  ·have hy:=OF (hok y (.inr (by simp)))
   have hys:=sC (hok y (.inr (by simp)))
   have hj:=EY h (bD h v k) y i2 hy (by omega)
   have hjl:=s5 h (bD h v k) y (by omega)
   have hjl':1≤(eD h (bD h v k) y).length∧(eD h (bD h v k) y).length≤2:=by
    rw[hjl];split<;>omega
   simp at h1 h2 hsz
   rw[hd1,hgoal,hsz]
   refine⟨?_,fun _=>⟨?_,?_,?_⟩,?_⟩
   ·show bH h (eD h (bD h v k) y++c)=_
    rw[bQ,IB,dU]
    simp[bH]
   ·show 1≤(eD h (bD h v k) y++c).length
    simp;omega
   ·show (eD h (bD h v k) y++c).length≤4
    simp;omega
   ·intro x hx
    have hx':x∈eD h (bD h v k) y++c:=hx
    simp at hx'
    rcases hx' with hx'|hx'
    ·exact hj x hx'
    ·exact hok x (.inr (by simp[hx']))
   ·show (eD h (bD h v k) y++c).length≤_
    simp;omega
def gF (out:List Pr) (n:Nat) (l:List Pr):List Pr:=out++l.take (n - out.length)
theorem DM (out:List Pr) (n:Nat) (a b:List Pr):gF (gF out n a) n b=gF out n (a++b):=by
 unfold gF
 rw[List.append_assoc,List.take_append]
 congr 3
 simp
 omega
theorem r8 {out:List Pr} {n:Nat} (h:n≤out.length) (l:List Pr):gF out n l=out:=by
 unfold gF
 rw[Nat.sub_eq_zero_of_le h]
 simp
theorem CD (l:List Pr) (k:Ky):dF l k=l.drop (dN l k):=by
 induction l with
 |nil=>rfl
 |cons q r ih=>
  unfold dF dN at ih ⊢
  rw[List.dropWhile_cons,List.takeWhile_cons]
  split
  ·rw[ih];simp
  ·simp
theorem NJ {l:List Pr} {k:Ky} (h:bT l):bT (dF l k):=h.sublist (List.dropWhile_sublist _)
end Go.Proofs.YteliblifgdofgaaGreatDoor
