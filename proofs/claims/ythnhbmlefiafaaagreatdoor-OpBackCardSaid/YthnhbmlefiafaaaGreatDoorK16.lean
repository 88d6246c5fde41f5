/- Parts of the proof, one behind the other. No further condition. -/
import Derived.Test.YthnhbmlefiafaaaGreatDoorK15
set_option linter.unusedVariables false
set_option linter.unusedSimpArgs false
set_option maxRecDepth 100000
set_option maxHeartbeats 8000000
namespace Go.Proofs.YthnhbmlefiafaaaGreatDoor
open Go.Ab
theorem Q8:∀(m:List (aG×aG)) (j:Nat) {x:aG×aG},m[j]? =some x→((rJ m).take (2*(j+1))).drop (2*j)=[x.1,x.2]
 |[],j,x,h=>by simp at h
 |p::r,0,x,h=>by
  cases h
  rfl
 |p::r,j+1,x,h=>by
  have h1:=Q8 r j (by simpa using h)
  have e1:2*(j+1+1)=2*(j+1)+1+1:=by omega
  have e2:2*(j+1)=2*j+1+1:=by omega
  rw[e1]
  show ((p.1::p.2::rJ r).take (2*(j+1)+1+1)).drop (2*(j+1))=_
  rw[List.take_succ_cons,List.take_succ_cons]
  conv=>lhs;rw[e2]
  rw[List.drop_succ_cons,List.drop_succ_cons,←e2]
  exact h1
theorem SR (l:List aG) (tg:eI):aN Tryz.prog 74 [mN l tg,.int .i64 2] (.fn (.func 127) [] [.ref [mN l tg],.ref [.int .i64 2]]):=by
 intro M
 refine aC aF Tryz.func74 rfl (by decide) (by simp[Tryz.f74]) ?_
 unfold mN
 repeat' (first|refine zA rfl ?_|refine aA ?_|refine aJ rfl ?_)
 exact⟨rfl,_,rfl,rfl,rfl⟩
theorem a5r (m:List (aG×aG)) (hm:m.length < 1000000) (y:Nat) (J:List (aG×aG)→aI→Prop) (B:aI→Prop) (M:aI) (hraw:∀L N,J L N→∃o vs t,N.get y=some (.raw none o vs t)) (hY:∀L (x:aG×aG) N,J L N→m[L.length]? =some x→fS Tryz.prog y [.sl 1 [.str x.1,.str x.2] .none] N fun e N'=>(e=.ret (.bool true)∧J (L++[x]) N')∨(e=.ret (.bool false)∧B N')) (h0:J [] M):aS Tryz.prog 127 [.yld y,.ref [mN (rJ m) .none],.ref [.int .i64 2]] M (fun e N=>e=.ret (.tup [])∧(J m N∨B N)):=by
 refine aC aF Tryz.func127 rfl (by decide) (by simp[Tryz.f127]) ?_
 have lu:(((rJ m).map AV.str).length:Int)=((2*m.length:Nat):Int):=by rw[List.length_map,qB]
 unfold mN
 repeat' (first|refine zA rfl ?_|refine aA ?_|refine aJ rfl ?_)
 refine aX m.length (fun j f N=>J (m.take j) N∧f=⟨[(0,.yld y),(1,.ref [.sl 1 ((rJ m).map AV.str) .none]),(2,.ref [.int .i64 2]),(4,.int .i64 ((2*j:Nat):Int))],[]⟩) (Nat.zero_le _) ⟨(by simpa using h0),rfl⟩ (aM.le ?_ (aI.le_refl _)) ?_
 ·skip
  repeat (refine AF.le_cons rfl ?_)
  exact AF.le_nil rfl
 rintro j f N hj ⟨hJ,rfl⟩
 by_cases g1:j < m.length
 ·have d1:decide (((2*j:Nat):Int) < ((2*m.length:Nat):Int))=true:=decide_eq_true (by omega)
  have hx:m[j]? =some m[j]:=List.getElem?_eq_getElem g1
  have ht:=b7 hx
  generalize m[j]=x at hx ht
  have hul:=qB m
  have sf:=q7 (f:=AV.str) (l:=rJ m) (n:=2*j) (by omega)
  have ld:((((rJ m).drop (2*j)).map AV.str).length:Int)=((2*m.length - 2*j:Nat):Int):=by rw[List.length_map,List.length_drop,hul]
  have wm:(if ((2*m.length - 2*j:Nat):Int) < 2 then ((2*m.length - 2*j:Nat):Int) else 2)=(2:Int):=if_neg (by omega)
  have w3:IntKind.wrap .i64 (((2*j:Nat):Int)+2)=((2*(j+1):Nat):Int):=(Go.Ab.wrap_small (by omega) (by omega)).trans (by omega)
  obtain⟨o,vs,t0,hr⟩:=hraw _ _ hJ
  repeat' (first|refine zB rfl d1 ?_|refine zI rfl (by first|exact lu|exact ld|exact wm|exact w3) ?_|refine zA rfl ?_|refine aA ?_|refine aJ rfl ?_|refine i5 aF rfl (sf) ?_|refine aO mixed [2,0,1,3,4,5,6] [.R,.R,.P,.P,.P,.P,.P] rfl rfl (by kernel_rfl) ?_)
  refine a19 aF rfl (ys:=[.str x.1,.str x.2]) ⟨by omega,by omega,by rw[List.length_map,hul];omega,?_⟩ rfl ?_
  ·rw[Int.toNat_natCast,Int.toNat_natCast,←List.map_take,←List.map_drop,Q8 m j hx]
   rfl
  refine a14 rfl hr (hY (m.take j) x N hJ (by rw[List.length_take,Nat.min_eq_left (by omega)];exact hx)) ?_ (by rintro u M' (⟨h,_⟩|⟨h,_⟩)<;>cases h)
  rintro u M' (⟨h,hJ'⟩|⟨h,hB⟩)
  ·cases h
   repeat' (first|refine zI rfl w3 ?_|refine zA rfl ?_|refine aA ?_|refine aJ rfl ?_)
   refine⟨g1,_,_,⟨by rw[ht];exact hJ',rfl⟩,aM.le ?_ (aI.le_refl _)⟩
   skip
   repeat (refine AF.le_cons rfl ?_)
   exact AF.le_nil rfl
  ·cases h
   repeat' (first|refine zA rfl ?_|refine aA ?_|refine aJ rfl ?_)
   exact⟨rfl,_,rfl,rfl,.inr hB⟩
 ·have d1:decide (((2*j:Nat):Int) < ((2*m.length:Nat):Int))=false:=decide_eq_false (by omega)
  obtain rfl:j=m.length:=by omega
  rw[List.take_length] at hJ
  repeat' (first|refine zB rfl d1 ?_|refine zI rfl lu ?_|refine zA rfl ?_|refine aA ?_|refine aJ rfl ?_)
  exact⟨rfl,_,rfl,rfl,.inl hJ⟩
theorem a13 (m:List (aG×aG)) (hm:m.length < 1000000):V3 Tryz.prog 127 [.ref [mN (rJ m) .none],.ref [.int .i64 2]] (fun x:aG×aG=>[.sl 1 [.str x.1,.str x.2] .none]) (fun L x=>m[L.length]? =some x) m:=
 fun y J B M hraw hY h0=>a5r m hm y J B M hraw hY h0
structure GI (L:List (aG×aG)) (N:aI):Prop where
 g0:N.get 0=some (.cells [.sl 0 [] .full])
 g1:N.get 1=some (.cells [.int .i64 0])
 g3:N.get 3=some l7
 nx:5≤N.next
 ok:∀x,x∈L→(bW x.2).2.2=0
 row:(L=[]∧N.get 2=some (.cells [.sl 0 [] .full]))∨∃id g,5≤id∧id < N.next∧N.get 2=some (.cells [.sl 5 ((L.map jV).map Ch.av) (.tok id g)])∧N.get id=some (.spare g)
structure GS (m:List (aG×aG)) (N:aI):Prop where
 g0:N.get 0=some (.cells [.sl 0 [] .full])
 g1:N.get 1=some (.cells [.int .i64 30])
 g3:N.get 3=some l7
 bad:∃x,x∈m∧(bW x.2).2.2≠0
def gK (O:cT) (L:List (aG×aG)) (N:aI):Prop:=N.get 4=some O∧GI L N
theorem XF {N:aI} {O1 Z C S R O:cT} {j:Nat} (h:j < N.next) (h2:j≠2) (h4:j≠4):((((((N.set 4 O1).push Z).set N.next C).push S).set 2 R).set 4 O).get j=N.get j:=by
 rw[aI.get_set,if_neg h4,aI.get_set,if_neg h2,uP h,if_neg h4]
theorem XM {N:aI} {O1 Z C S R O:cT} {j id:Nat} (h:j < N.next) (h2:j≠2) (h4:j≠4) (hi:j≠id):((((((N.set 4 O1).push Z).set N.next C).set id S).set 2 R).set 4 O).get j=N.get j:=by
 rw[aI.get_set,if_neg h4,aI.get_set,if_neg h2,aI.get_set,if_neg hi,gH h,if_neg h4]
theorem sZ {M:aI} {x y:AV} {t:List (Nat×AV)} (h2:AF.get ⟨t,[]⟩ 2=.ptr 0 0) (h3:AF.get ⟨t,[]⟩ 3=.ptr 1 0) (g0:M.get 0=some (.cells [x])) (g1:M.get 1=some (.cells [y])):kP lY M ⟨t,[]⟩ Tryz.f36.results=some (.tup [x,y]):=by
 have a1:eS M lY 22 (.ptr 0 0)=some x:=by
  simp only[eS,g0]
  rfl
 have a2:eS M lY 27 (.ptr 1 0)=some y:=by
  simp only[eS,g1]
  rfl
 show kP lY M ⟨t,[]⟩ #[.cell 2 22,.cell 3 27]=_
 simp only[kP,wY,qQ,h2,h3,a1,a2]
theorem a1m (s:aG) (hs:s.length < 1000000):aN Tryz.prog 36 [.str s] (gcA (l5 s)):=by
 refine aT (aY aR) (B6 _) ?_
 refine oF aF Tryz.func36 rfl (by decide) (by simp[Tryz.f36]) ?_
 have kr:=LN s (by omega)
 cases ho:mC s with
 |none=>
  rw[ho] at kr
  rw[IB ho]
  unfold grA mN at kr
  repeat' (first|refine zA rfl ?_|refine aA ?_|refine aJ rfl ?_|refine aD rfl kr ?_)
  exact⟨_,rfl,_,rfl,iP⟩
 |some p=>
  obtain⟨l,r⟩:=p
  obtain⟨_,_,hl,hb⟩:=y6 ho
  rw[ho] at kr
  have la:=aU AV.str l
  unfold grA mN at kr
  by_cases hr:r=[]
  ·subst hr
   have d3:(!(([]:aG)==[]))=false:=rfl
   have w2:=a8z l.length (by omega)
   by_cases h2:l.length%2=0
   ·have d4:(!decide (((l.length%2:Nat):Int)=0))=false:=by simp;omega
    obtain⟨m,rfl⟩:=NT (l.length/2) l (by omega)
    have lu:=qB m
    rw[lu] at la hl w2 d4
    have kc:=SR (rJ m) .none
    unfold mN at kc
    repeat' (first|refine zB rfl (by first|exact d3|exact d4) ?_|refine zI rfl la ?_|refine zA rfl ?_|refine aA ?_|refine aJ rfl ?_|refine aD rfl kr ?_|refine aD rfl kc ?_)
    refine W.le (g:=⟨[(2,.ptr 0 0),(3,.ptr 1 0),(7,.ptr 2 0),(31,.fn (.func 127) [] [.ref [mN (rJ m) .none],.ref [.int .i64 2]])],[]⟩) (N:=⟨3,[(0,.cells [.sl 0 [] .full]),(1,.cells [.int .i64 0]),(2,.cells [.sl 0 [] .full])]⟩) ?_ ?_ ?_
    ·unfold mN
     repeat (refine AF.le_cons rfl ?_)
     exact AF.le_nil rfl
    ·exact aI.le_cons rfl (aI.le_cons rfl (aI.le_cons rfl (aI.le_nil rfl)))
    refine WY rfl (a13 m (by omega)) gK (GS m) (fun _=>rfl) rfl ?_ ?_ ?_ ?_ ?_
    ·rintro O L N ⟨hO,_⟩
     exact hO
    ·intro O
     exact⟨rfl,rfl,rfl,rfl,Nat.le_refl 5,fun x hx=>(by cases hx),.inl ⟨rfl,rfl⟩⟩
    ·rintro O O1 L x N l ⟨hO,hG⟩ hok
     have hm:=List.mem_of_getElem? hok
     have hLl:=(List.getElem?_eq_some_iff.1 hok).1
     obtain⟨hm1,hm2⟩:=xD hm
     have b2:=hb _ hm2
     have kd:=x8 x.2 (by omega)
     have hnx:=hG.nx
     unfold rmA at kd
     repeat' (first|refine zA rfl ?_|refine aA ?_|refine aJ rfl ?_)
     refine⟨hO,?_⟩
     show W _ _ _ _ _ _ (N.set 4 O1)
     repeat' (first|refine zA rfl ?_|refine aJ rfl ?_|refine aD rfl kd ?_|refine zX rfl (⟨by decide,rfl⟩) ?_)
     refine kU aF gV rfl ?_
     by_cases h0:(bW x.2).2.2=0
     ·have d0:(!decide ((bW x.2).2.2=0))=false:=by simp[h0]
      have hok2:∀y,y∈L++[x]→(bW y.2).2.2=0:=fun y hy=>by
       rcases List.mem_append.1 hy with hy|hy
       ·exact hG.ok y hy
       ·simp at hy
        subst hy
        exact h0
      repeat' (first|refine zB rfl d0 ?_|refine zA rfl ?_|refine aA ?_|refine aJ rfl ?_|refine aO mixed [1,4,0,2,3,5,6,7,8,9] [.R,.P,.R,.R,.P,.R,.P,.P,.E,.E] rfl rfl (by kernel_rfl) ?_)
      rcases hG.row with ⟨rfl,h2⟩|⟨id,g,hid,hidn,h2,hsp⟩
      ·refine pE aF ((gH (j:=2) (by omega)).trans h2) rfl ?_
       repeat' (first|refine zA rfl ?_|refine zX rfl (⟨by decide,rfl⟩) ?_)
       refine pE aF cW rfl ?_
       repeat' (first|refine zA rfl ?_|refine zR rfl ?_)
       refine PB aF rfl (by simp) (by simp) ?_
       refine kU aF ((uP (N:=N) (it:=4) (I:=O1) (j:=2) (by omega)).trans h2) rfl ?_
       repeat' (first|refine aA ?_)
       refine⟨?_,.inl ⟨rfl,cW,?_,?_,?_,?_,hok2,.inr ⟨N.next+1,0,by omega,?_,?_,?_⟩⟩⟩
       ·show aI.get (aI.set _ 2 _) 4=some O1
        rw[aI.get_set,if_neg (by decide)]
        exact (uP (N:=N) (it:=4) (I:=O1) (j:=4) (by omega)).trans (if_pos rfl)
       ·exact (XF (by omega) (by decide) (by decide)).trans hG.g0
       ·exact (XF (by omega) (by decide) (by decide)).trans hG.g1
       ·exact (XF (by omega) (by decide) (by decide)).trans hG.g3
       ·show 5≤N.next+1+1
        omega
       ·show N.next+1 < N.next+1+1
        omega
       ·rw[aI.get_set,if_neg (by decide),aI.get_set,if_pos rfl]
        rfl
       ·show aI.get (aI.set (aI.set _ 2 _) 4 _) (N.next+1)=_
        rw[aI.get_set,if_neg (by omega),aI.get_set,if_neg (by omega)]
        exact gV
      ·refine pE aF ((gH (j:=2) (by omega)).trans h2) rfl ?_
       repeat' (first|refine zA rfl ?_|refine zX rfl (⟨by decide,rfl⟩) ?_)
       refine pE aF cW rfl ?_
       repeat' (first|refine zA rfl ?_|refine zR rfl ?_)
       refine qR aF rfl rfl rfl rfl rfl ((gH (j:=id) hidn).trans ((if_neg (by omega)).trans hsp)) rfl rfl rfl rfl rfl rfl rfl rfl rfl (by simp;omega) (by simp;omega) ?_
       refine kU (id:=2) aF (show (aI.set _ id _).get 2=some (.cells [.sl 5 ((L.map jV).map Ch.av) (.tok id g)]) from by rw[aI.get_set,if_neg (by omega)];exact (gH (j:=2) (by omega)).trans h2) rfl ?_
       repeat' (first|refine aA ?_)
       refine⟨?_,.inl ⟨rfl,cW,?_,?_,?_,?_,hok2,.inr ⟨id,g+1,hid,?_,?_,?_⟩⟩⟩
       ·show aI.get (aI.set (aI.set _ id _) 2 _) 4=some O1
        rw[aI.get_set,if_neg (by decide),aI.get_set,if_neg (by omega)]
        exact (gH (N:=N) (it:=4) (I:=O1) (j:=4) (by omega)).trans (if_pos rfl)
       ·exact (XM (by omega) (by decide) (by decide) (by omega)).trans hG.g0
       ·exact (XM (by omega) (by decide) (by decide) (by omega)).trans hG.g1
       ·exact (XM (by omega) (by decide) (by decide) (by omega)).trans hG.g3
       ·show 5≤N.next+1
        omega
       ·show id < N.next+1
        omega
       ·rw[aI.get_set,if_neg (by decide),aI.get_set,if_pos rfl,a8j]
        rfl
       ·show aI.get (aI.set (aI.set (aI.set _ id _) 2 _) 4 _) id=_
        rw[aI.get_set,if_neg (by omega),aI.get_set,if_neg (by omega),aI.get_set,if_pos rfl]
     ·have d0:(!decide ((bW x.2).2.2=0))=true:=by simp[h0]
      repeat' (first|refine zB rfl d0 ?_|refine zA rfl ?_|refine aA ?_|refine aJ rfl ?_)
      refine kU aF ((gH (j:=0) (by omega)).trans hG.g0) rfl ?_
      refine kU (id:=1) (l:=[.int .i64 0]) aF (by rw[aI.get_set,if_neg (by decide)];exact (gH (j:=1) (by omega)).trans hG.g1) rfl ?_
      repeat' (first|refine aA ?_|refine aJ rfl ?_)
      refine⟨?_,.inr ⟨rfl,?_,?_,?_,⟨x,hm,h0⟩⟩⟩
      ·show aI.get (aI.set (aI.set _ 0 _) 1 _) 4=some O1
       rw[aI.get_set,if_neg (by decide),aI.get_set,if_neg (by decide)]
       exact (gH (N:=N) (it:=4) (I:=O1) (j:=4) (by omega)).trans (if_pos rfl)
      ·rw[aI.get_set,if_neg (by decide),aI.get_set,if_pos rfl]
      ·rw[aI.get_set,if_pos rfl]
      ·rw[aI.get_set,if_neg (by decide),aI.get_set,if_neg (by decide)]
       exact (gH (by omega)).trans hG.g3
    ·rintro O N ⟨hO,hG⟩
     refine⟨N.drop 4,aI.drop_le,by rw[aI.get_drop];rfl,?_⟩
     have gd:∀j,j≠4→(N.drop 4).get j=N.get j:=fun j hj=>by rw[aI.get_drop,if_neg hj]
     have hcl:=eN (m.map jV) (t:=.none) (.inl rfl)
     have hsh:∀c,c∈m.map jV→fE c:=fun c hc=>by
      obtain⟨x,hx,rfl⟩:=List.mem_map.1 hc
      exact A6 (hb _ (xD hx).1) (hG.ok x hx)
     rcases hG.row with ⟨rfl,hr2⟩|⟨id,g,hid,hidn,hr2,hsp⟩
     ·rw[G0 ho hG.ok rfl]
      have kb:=(zK [] .none (by decide) (fun c hc=>by cases hc)).sub (args:=[.sl 0 [] .full]) ⟨Sub.nil,trivial⟩
      repeat' (first|refine aJ rfl ?_)
      refine pE aF ((gd 2 (by decide)).trans hr2) rfl ?_
      repeat' (first|refine zA rfl ?_|refine aA ?_|refine aJ rfl ?_|refine aD rfl kb ?_)
      refine kU aF ((gd 0 (by decide)).trans hG.g0) rfl ?_
      refine kU (id:=1) (l:=[.int .i64 0]) aF (by rw[aI.get_set,if_neg (by decide)];exact (gd 1 (by decide)).trans hG.g1) rfl ?_
      repeat' (first|refine aA ?_|refine aJ rfl ?_)
      refine uH (N:=aI.drop _ 3) ?_ aI.drop_le (by rw[aI.get_drop];rfl) ⟨_,sZ (x:=.sl 0 [] .full) (y:=.int .i64 30) rfl rfl ?_ ?_,_,rfl,iP⟩
      ·rw[aI.get_set,if_neg (by decide),aI.get_set,if_neg (by decide)]
       exact (gd 3 (by decide)).trans hG.g3
      ·rw[aI.get_drop,if_neg (by decide),aI.get_set,if_neg (by decide),aI.get_set,if_pos rfl]
      ·rw[aI.get_drop,if_neg (by decide),aI.get_set,if_pos rfl]
     ·have hll:m.length < 1000000:=by omega
      have kb:=zK (m.map jV) (.tok id g) (by rw[List.length_map];exact hll) hsh
      unfold gS at kb hcl
      cases h:cL (m.map jV)
      ·rw[h] at kb
       rw[G0 ho hG.ok h]
       repeat' (first|refine aJ rfl ?_)
       refine pE aF ((gd 2 (by decide)).trans hr2) rfl ?_
       repeat' (first|refine zA rfl ?_|refine aA ?_|refine aJ rfl ?_|refine aD rfl kb ?_)
       refine kU aF ((gd 0 (by decide)).trans hG.g0) rfl ?_
       refine kU (id:=1) (l:=[.int .i64 0]) aF (by rw[aI.get_set,if_neg (by decide)];exact (gd 1 (by decide)).trans hG.g1) rfl ?_
       repeat' (first|refine aA ?_|refine aJ rfl ?_)
       refine uH (N:=aI.drop _ 3) ?_ aI.drop_le (by rw[aI.get_drop];rfl) ⟨_,sZ (x:=.sl 0 [] .full) (y:=.int .i64 30) rfl rfl ?_ ?_,_,rfl,iP⟩
       ·rw[aI.get_set,if_neg (by decide),aI.get_set,if_neg (by decide)]
        exact (gd 3 (by decide)).trans hG.g3
       ·rw[aI.get_drop,if_neg (by decide),aI.get_set,if_neg (by decide),aI.get_set,if_pos rfl]
       ·rw[aI.get_drop,if_neg (by decide),aI.get_set,if_pos rfl]
      ·rw[h] at kb
       rw[J6 ho hG.ok h]
       repeat' (first|refine aJ rfl ?_)
       refine pE aF ((gd 2 (by decide)).trans hr2) rfl ?_
       repeat' (first|refine zA rfl ?_|refine aA ?_|refine aJ rfl ?_|refine aD rfl kb ?_)
       refine pE aF ((gd 2 (by decide)).trans hr2) rfl ?_
       refine kU aF ((gd 0 (by decide)).trans hG.g0) rfl ?_
       refine kU (id:=1) (l:=[.int .i64 0]) aF (by rw[aI.get_set,if_neg (by decide)];exact (gd 1 (by decide)).trans hG.g1) rfl ?_
       repeat' (first|refine aA ?_|refine aJ rfl ?_)
       refine uH (N:=aI.drop _ 3) ?_ aI.drop_le (by rw[aI.get_drop];rfl) ⟨_,sZ (x:=.sl 5 ((m.map jV).map Ch.av) (.tok id g)) (y:=.int .i64 0) rfl rfl ?_ ?_,_,rfl,aH.tup2 (aH.untag hcl) (aH.of_closed aB)⟩
       ·rw[aI.get_set,if_neg (by decide),aI.get_set,if_neg (by decide)]
        exact (gd 3 (by decide)).trans hG.g3
       ·rw[aI.get_drop,if_neg (by decide),aI.get_set,if_neg (by decide),aI.get_set,if_pos rfl]
       ·rw[aI.get_drop,if_neg (by decide),aI.get_set,if_pos rfl]
    ·intro O N hS
     obtain⟨x,hx,hbad⟩:=hS.bad
     rw[JW ho hx hbad]
     refine⟨(N.set 4 O).drop 4,aI.drop_le,by rw[aI.get_drop];rfl,?_⟩
     have gd:∀j,j≠4→((N.set 4 O).drop 4).get j=N.get j:=fun j hj=>by rw[aI.get_drop,if_neg hj,aI.get_set,if_neg hj]
     refine uH (N:=((N.set 4 O).drop 4).drop 3) ((gd 3 (by decide)).trans hS.g3) aI.drop_le (by rw[aI.get_drop];rfl) ⟨_,sZ rfl rfl ?_ ?_,_,rfl,iP⟩
     ·rw[aI.get_drop]
      exact (gd 0 (by decide)).trans hS.g0
     ·rw[aI.get_drop]
      exact (gd 1 (by decide)).trans hS.g1
   ·have d4:(!decide (((l.length%2:Nat):Int)=0))=true:=by simp;omega
    rw[u7 ho (fun h=>h2 h.2)]
    repeat' (first|refine zB rfl (by first|exact d3|exact d4) ?_|refine zI rfl la ?_|refine zA rfl ?_|refine aA ?_|refine aJ rfl ?_|refine aD rfl kr ?_)
    exact⟨_,rfl,_,rfl,iP⟩
  ·have d3:(!(r==[]))=true:=by simp[hr]
   rw[u7 ho (fun h=>hr h.1)]
   repeat' (first|refine zB rfl d3 ?_|refine zA rfl ?_|refine aA ?_|refine aJ rfl ?_|refine aD rfl kr ?_)
   exact⟨_,rfl,_,rfl,iP⟩
theorem a5a (x y:Ch):(x.path==y.path&&(x.gone==y.gone&&decide (x.meta_=y.meta_)))=decide (x=y):=by
 obtain⟨a,b,c⟩:=x
 obtain⟨d,e,f⟩:=y
 rw[Bool.eq_iff_iff]
 simp
theorem MA {a b:List Ch} {i:Nat} {x y:Ch} (hx:a[i]? =some x) (hy:b[i]? =some y) (h:x≠y):decide (a=b)=false:=by
 refine decide_eq_false fun e=>h ?_
 subst e
 rw[hx] at hy
 cases hy
 rfl
theorem RT (a b:List Ch) (ta tb:eI) (ha:a.length < 1000000) (hb:b.length < 1000000) (sa:∀c,c∈a→c.meta_.ch.length < 1000000) (sb:∀c,c∈b→c.meta_.ch.length < 1000000):aN Tryz.prog 44 [gS a ta,gS b tb] (.bool (decide (a=b))):=by
 intro M
 refine aC aF Tryz.func44 rfl (by decide) (by simp[Tryz.f44]) ?_
 have la:=aU Ch.av a
 have lb:=aU Ch.av b
 unfold gS
 by_cases hl:a.length=b.length
 ·have d0:(!decide ((a.length:Int)=(b.length:Int)))=false:=by simp;omega
  repeat' (first|refine zB rfl d0 ?_|refine zI rfl (by first|exact la|exact lb) ?_|refine zA rfl ?_|refine aA ?_|refine aJ rfl ?_)
  refine aX a.length (fun i f N=>N=M∧(a.take i=b.take i)∧f=⟨[(0,.sl 5 (a.map Ch.av) ta),(1,.sl 5 (b.map Ch.av) tb),(5,.int .i64 (i:Int))],[]⟩) (Nat.zero_le _) ⟨rfl,by simp,rfl⟩ (aM.le ?_ (aI.le_refl _)) ?_
  ·skip
   repeat (refine AF.le_cons rfl ?_)
   exact AF.le_nil rfl
  rintro i f N hi ⟨rfl,hinv,rfl⟩
  by_cases h1:i < a.length
  ·have d1:decide ((i:Int) < (a.length:Int))=true:=by simp;omega
   have hx:a[i]? =some a[i]:=List.getElem?_eq_getElem h1
   have fi:=aQ (i:=i) (by omega)
   have ht:=b7 hx
   have hm:=List.getElem_mem h1
   generalize a[i]=x at hx ht hm
   have hy:b[i]? =some b[i]:=List.getElem?_eq_getElem (by omega)
   have hmy:=List.getElem_mem (l:=b) (n:=i) (by omega)
   have hu:=b7 hy
   generalize b[i]=y at hy hu hmy
   have km:=E1 x.meta_ y.meta_ (sa x hm) (sb y hmy)
   by_cases q1:x.path=y.path
   ·have e1:(!(x.path==y.path))=false:=by simp[q1]
    by_cases h2:x.gone=y.gone
    ·have e2:(x.gone != y.gone)=false:=by simp[h2]
     by_cases h3:x.meta_=y.meta_
     ·rw[decide_eq_true h3] at km
      have hxy:x=y:=by
       have:=a5a x y
       rw[q1,h2,h3] at this
       simpa using this
      repeat' (first|refine zB rfl (by first|exact d1|exact e1|exact e2) ?_|refine zI rfl (by first|exact fi|exact la) ?_|refine zA rfl ?_|refine aA ?_|refine aJ rfl ?_|refine aD rfl km ?_|refine zX rfl (c7 hx) ?_|refine zX rfl (c7 hy) ?_|refine aO mixed [0,1,5,6,2,3,4,7,8,9,10,11,12,13,17,18,14,15,16,19,20,21,22,23,24,25,26,30,31,27,28,29,32,33,34,35,36,37] [.P,.P,.R,.R,.R,.P,.P,.R,.R,.R,.P,.P,.P,.P,.R,.R,.R,.P,.P,.R,.R,.R,.P,.P,.P,.P,.P,.R,.R,.R,.P,.P,.R,.R,.R,.P,.P,.P] rfl rfl (by kernel_rfl) ?_)
      refine⟨h1,_,_,⟨rfl,by rw[ht,hu,hinv,hxy],rfl⟩,aM.le ?_ (aI.le_refl _)⟩
      repeat (refine AF.le_cons rfl ?_)
      exact AF.le_nil rfl
     ·rw[decide_eq_false h3] at km
      rw[MA hx hy (fun e=>h3 (by rw[e]))]
      repeat' (first|refine zB rfl (by first|exact d1|exact e1|exact e2) ?_|refine zI rfl (by first|exact fi|exact la) ?_|refine zA rfl ?_|refine aA ?_|refine aJ rfl ?_|refine aD rfl km ?_|refine zX rfl (c7 hx) ?_|refine zX rfl (c7 hy) ?_|refine aO mixed [0,1,5,6,2,3,4,7,8,9,10,11,12,13,17,18,14,15,16,19,20,21,22,23,24,25,26,30,31,27,28,29,32,33,34,35,36,37] [.P,.P,.R,.R,.R,.P,.P,.R,.R,.R,.P,.P,.P,.P,.R,.R,.R,.P,.P,.R,.R,.R,.P,.P,.P,.P,.P,.R,.R,.R,.P,.P,.R,.R,.R,.P,.P,.P] rfl rfl (by kernel_rfl) ?_)
      exact⟨rfl,_,rfl,rfl,rfl⟩
    ·have e2:(x.gone != y.gone)=true:=by simp[h2]
     rw[MA hx hy (fun e=>h2 (by rw[e]))]
     repeat' (first|refine zB rfl (by first|exact d1|exact e1|exact e2) ?_|refine zI rfl (by first|exact fi|exact la) ?_|refine zA rfl ?_|refine aA ?_|refine aJ rfl ?_|refine zX rfl (c7 hx) ?_|refine zX rfl (c7 hy) ?_|refine aO mixed [0,1,5,6,2,3,4,7,8,9,10,11,12,13,17,18,14,15,16,19,20,21,22,23,24,25,26,30,31,27,28,29,32,33,34,35,36,37] [.P,.P,.R,.R,.R,.P,.P,.R,.R,.R,.P,.P,.P,.P,.R,.R,.R,.P,.P,.R,.R,.R,.P,.P,.P,.P,.P,.R,.R,.R,.P,.P,.R,.R,.R,.P,.P,.P] rfl rfl (by kernel_rfl) ?_)
     exact⟨rfl,_,rfl,rfl,rfl⟩
   ·have e1:(!(x.path==y.path))=true:=by simp[q1]
    rw[MA hx hy (fun e=>q1 (by rw[e]))]
    repeat' (first|refine zB rfl (by first|exact d1|exact e1) ?_|refine zI rfl (by first|exact fi|exact la) ?_|refine zA rfl ?_|refine aA ?_|refine aJ rfl ?_|refine zX rfl (c7 hx) ?_|refine zX rfl (c7 hy) ?_|refine aO mixed [0,1,5,6,2,3,4,7,8,9,10,11,12,13,17,18,14,15,16,19,20,21,22,23,24,25,26,30,31,27,28,29,32,33,34,35,36,37] [.P,.P,.R,.R,.R,.P,.P,.R,.R,.R,.P,.P,.P,.P,.R,.R,.R,.P,.P,.R,.R,.R,.P,.P,.P,.P,.P,.R,.R,.R,.P,.P,.R,.R,.R,.P,.P,.P] rfl rfl (by kernel_rfl) ?_)
    exact⟨rfl,_,rfl,rfl,rfl⟩
  ·have d1:decide ((i:Int) < (a.length:Int))=false:=by simp;omega
   obtain rfl:i=a.length:=by omega
   rw[gX,hl,gX] at hinv
   rw[decide_eq_true hinv]
   repeat' (first|refine zB rfl d1 ?_|refine zI rfl la ?_|refine zA rfl ?_|refine aA ?_|refine aJ rfl ?_)
   exact⟨rfl,_,rfl,rfl,rfl⟩
 ·have d0:(!decide ((a.length:Int)=(b.length:Int)))=true:=by simp;omega
  rw[decide_eq_false (fun e=>hl (by rw[e]))]
  repeat' (first|refine zB rfl d0 ?_|refine zI rfl (by first|exact la|exact lb) ?_|refine zA rfl ?_|refine aA ?_|refine aJ rfl ?_)
  exact⟨rfl,_,rfl,rfl,rfl⟩
theorem wR {l:List Ch} (h:cL l=true):l.length≤20∧∀c,c∈l→fE c:=by
 obtain⟨_,h2,h3,_⟩:=iX h
 refine⟨h2,fun c hc=>?_⟩
 obtain⟨_,h5,h6,_⟩:=mX (h3 c hc)
 have h7:=uU h5
 unfold mV at h6
 simp only[Bool.and_eq_true,decide_eq_true_eq] at h6
 exact⟨by omega,by omega⟩
structure Oo where
 client:Int
 seq:Int
 kind:Int
 session:Int
 at_:Int
 ch:List Ch
deriving DecidableEq
def Oo.cells (o:Oo):List AV:=[.int .i64 o.client,.int .i64 o.seq,.int .i64 o.kind,.int .i64 o.session,.int .i64 o.at_,gS o.ch .none]
def Oo.av (o:Oo):AV:=.agg o.cells
theorem B9 (o:Oo):∀x,x∈o.cells→aP x:=eK aB (eK aB (eK aB (cD aB aB (eN _ (.inl rfl)))))
theorem cH (o:Oo):aP o.av:=cP (B9 o)
def IR (n m:Int):Bool:=decide (0≤n)&&decide (n≤m)
def yH (o:Oo):Bool:=if o.kind=1 then cL o.ch&&decide (o.session=0)&&decide (o.at_=0) else if o.kind=2 then decide ((o.ch.length:Int)=0) else if o.kind=3 then decide ((o.ch.length:Int)=0)&&decide (o.at_=0) else if o.kind=4 then decide ((o.ch.length:Int)=0)&&decide (o.session=0) else false
def fT (o:Oo):Bool:=IR o.client 1000000&&!decide (o.seq < 1)&&IR o.seq 1000000000&&IR o.session 1000000&&IR o.at_ 1000000000&&yH o
def cN (o:Oo):Prop:=o.ch.length < 1000000∧∀c,c∈o.ch→fE c
theorem nL (n m:Int):aN Tryz.prog 40 [.int .i64 n,.int .i64 m] (.bool (IR n m)):=by
 intro M
 refine aC aF Tryz.func40 rfl (by decide) (by simp[Tryz.f40]) ?_
 unfold IR
 have e:decide (n≥0)=decide (0≤n):=rfl
 cases h:decide (0≤n)
 ·repeat' (first|refine zB rfl h ?_|refine zA rfl ?_|refine aA ?_|refine aJ rfl ?_)
  exact⟨rfl,_,rfl,rfl,rfl⟩
 ·repeat' (first|refine zB rfl h ?_|refine zA rfl ?_|refine aA ?_|refine aJ rfl ?_)
  exact⟨rfl,_,rfl,rfl,rfl⟩
theorem xC (n m:Int):aN Tryz.prog 42 [.int .i64 n,.int .i64 m] (.bool (IR n m)):=by
 intro M
 refine aC aF Tryz.func42 rfl (by decide) (by simp[Tryz.f42]) ?_
 unfold IR
 have e:decide (n≥0)=decide (0≤n):=rfl
 cases h:decide (0≤n)
 ·repeat' (first|refine zB rfl h ?_|refine zA rfl ?_|refine aA ?_|refine aJ rfl ?_)
  exact⟨rfl,_,rfl,rfl,rfl⟩
 ·repeat' (first|refine zB rfl h ?_|refine zA rfl ?_|refine aA ?_|refine aJ rfl ?_)
  exact⟨rfl,_,rfl,rfl,rfl⟩
theorem oR (o:Oo) (ho:cN o):aN Tryz.prog 14 [o.av] (.bool (fT o)):=by
 intro M
 refine aC aF Tryz.func14 rfl (by decide) (by simp[Tryz.f14]) ?_
 have la:=aU Ch.av o.ch
 have k1:=nL o.client 1000000
 have k2:=nL o.seq 1000000000
 have k3:=nL o.session 1000000
 have k4:=nL o.at_ 1000000000
 have kb:=zK o.ch .none ho.1 ho.2
 unfold fT yH
 unfold gS at kb
 generalize IR o.client 1000000=b1 at*
 generalize IR o.seq 1000000000=b3 at*
 generalize IR o.session 1000000=b4 at*
 generalize IR o.at_ 1000000000=b5 at*
 generalize cL o.ch=b6 at*
 cases b1
 ·repeat' (first|refine zA rfl ?_|refine aA ?_|refine aJ rfl ?_|refine aD rfl k1 ?_)
  exact⟨rfl,_,rfl,rfl,rfl⟩
 cases d2:decide (o.seq < 1)
 case true=>
  repeat' (first|refine zB rfl d2 ?_|refine zA rfl ?_|refine aA ?_|refine aJ rfl ?_|refine aD rfl k1 ?_)
  exact⟨rfl,_,rfl,rfl,rfl⟩
 cases b3
 ·repeat' (first|refine zB rfl d2 ?_|refine zA rfl ?_|refine aA ?_|refine aJ rfl ?_|refine aD rfl k1 ?_|refine aD rfl k2 ?_)
  exact⟨rfl,_,rfl,rfl,rfl⟩
 cases b4
 ·repeat' (first|refine zB rfl d2 ?_|refine zA rfl ?_|refine aA ?_|refine aJ rfl ?_|refine aD rfl k1 ?_|refine aD rfl k2 ?_|refine aD rfl k3 ?_)
  exact⟨rfl,_,rfl,rfl,rfl⟩
 cases b5
 ·repeat' (first|refine zB rfl d2 ?_|refine zA rfl ?_|refine aA ?_|refine aJ rfl ?_|refine aD rfl k1 ?_|refine aD rfl k2 ?_|refine aD rfl k3 ?_|refine aD rfl k4 ?_)
  exact⟨rfl,_,rfl,rfl,rfl⟩
 by_cases h1:o.kind=1
 ·have e1:decide (o.kind=1)=true:=by simp[h1]
  rw[if_pos h1]
  cases b6
  ·repeat' (first|refine zB rfl (by first|exact d2|exact e1) ?_|refine zI rfl la ?_|refine zA rfl ?_|refine aA ?_|refine aJ rfl ?_|refine aD rfl k1 ?_|refine aD rfl k2 ?_|refine aD rfl k3 ?_|refine aD rfl k4 ?_|refine aD rfl kb ?_|refine aO mixed [0,1,2,10,3,4,5,11,6,7,8,9,12] [.R,.R,.P,.R,.R,.P,.R,.R,.P,.P,.P,.P,.P] rfl rfl (by kernel_rfl) ?_)
   exact⟨rfl,_,rfl,rfl,rfl⟩
  ·cases d3:decide (o.session=0)
   ·repeat' (first|refine zB rfl (by first|exact d2|exact d3|exact e1) ?_|refine zI rfl la ?_|refine zA rfl ?_|refine aA ?_|refine aJ rfl ?_|refine aD rfl k1 ?_|refine aD rfl k2 ?_|refine aD rfl k3 ?_|refine aD rfl k4 ?_|refine aD rfl kb ?_|refine aO mixed [0,1,2,10,3,4,5,11,6,7,8,9,12] [.R,.R,.P,.R,.R,.P,.R,.R,.P,.P,.P,.P,.P] rfl rfl (by kernel_rfl) ?_)
    exact⟨rfl,_,rfl,rfl,rfl⟩
   ·repeat' (first|refine zB rfl (by first|exact d2|exact d3|exact e1) ?_|refine zI rfl la ?_|refine zA rfl ?_|refine aA ?_|refine aJ rfl ?_|refine aD rfl k1 ?_|refine aD rfl k2 ?_|refine aD rfl k3 ?_|refine aD rfl k4 ?_|refine aD rfl kb ?_|refine aO mixed [0,1,2,10,3,4,5,11,6,7,8,9,12] [.R,.R,.P,.R,.R,.P,.R,.R,.P,.P,.P,.P,.P] rfl rfl (by kernel_rfl) ?_)
    exact⟨rfl,_,rfl,rfl,rfl⟩
 have e1:decide (o.kind=1)=false:=by simp[h1]
 rw[if_neg h1]
 by_cases h2:o.kind=2
 ·have e2:decide (o.kind=2)=true:=by simp[h2]
  rw[if_pos h2]
  repeat' (first|refine zB rfl (by first|exact d2|exact e1|exact e2) ?_|refine zI rfl la ?_|refine zA rfl ?_|refine aA ?_|refine aJ rfl ?_|refine aD rfl k1 ?_|refine aD rfl k2 ?_|refine aD rfl k3 ?_|refine aD rfl k4 ?_|refine aO mixed [0,1,2,10,3,4,5,11,6,7,8,9,12] [.R,.R,.P,.R,.R,.P,.R,.R,.P,.P,.P,.P,.P] rfl rfl (by kernel_rfl) ?_)
  exact⟨rfl,_,rfl,rfl,rfl⟩
 have e2:decide (o.kind=2)=false:=by simp[h2]
 rw[if_neg h2]
 cases d5:decide ((o.ch.length:Int)=0)
 all_goals
  by_cases h3:o.kind=3
  ·have e3:decide (o.kind=3)=true:=by simp[h3]
   rw[if_pos h3]
   repeat' (first|refine zB rfl (by first|exact d2|exact d5|exact e1|exact e2|exact e3) ?_|refine zI rfl la ?_|refine zA rfl ?_|refine aA ?_|refine aJ rfl ?_|refine aD rfl k1 ?_|refine aD rfl k2 ?_|refine aD rfl k3 ?_|refine aD rfl k4 ?_|refine aO mixed [0,1,2,10,3,4,5,11,6,7,8,9,12] [.R,.R,.P,.R,.R,.P,.R,.R,.P,.P,.P,.P,.P] rfl rfl (by kernel_rfl) ?_)
   exact⟨rfl,_,rfl,rfl,rfl⟩
  have e3:decide (o.kind=3)=false:=by simp[h3]
  rw[if_neg h3]
  by_cases h4:o.kind=4
  ·have e4:decide (o.kind=4)=true:=by simp[h4]
   rw[if_pos h4]
   repeat' (first|refine zB rfl (by first|exact d2|exact d5|exact e1|exact e2|exact e3|exact e4) ?_|refine zI rfl la ?_|refine zA rfl ?_|refine aA ?_|refine aJ rfl ?_|refine aD rfl k1 ?_|refine aD rfl k2 ?_|refine aD rfl k3 ?_|refine aD rfl k4 ?_|refine aO mixed [0,1,2,10,3,4,5,11,6,7,8,9,12] [.R,.R,.P,.R,.R,.P,.R,.R,.P,.P,.P,.P,.P] rfl rfl (by kernel_rfl) ?_)
   exact⟨rfl,_,rfl,rfl,rfl⟩
  have e4:decide (o.kind=4)=false:=by simp[h4]
  rw[if_neg h4]
  repeat' (first|refine zB rfl (by first|exact d2|exact d5|exact e1|exact e2|exact e3|exact e4) ?_|refine zI rfl la ?_|refine zA rfl ?_|refine aA ?_|refine aJ rfl ?_|refine aD rfl k1 ?_|refine aD rfl k2 ?_|refine aD rfl k3 ?_|refine aD rfl k4 ?_|refine aO mixed [0,1,2,10,3,4,5,11,6,7,8,9,12] [.R,.R,.P,.R,.R,.P,.R,.R,.P,.P,.P,.P,.P] rfl rfl (by kernel_rfl) ?_)
  exact⟨rfl,_,rfl,rfl,rfl⟩
theorem F8 (o:Oo) (ho:cN o):aN Tryz.prog 15 [o.av] (.bool (fT o)):=by
 intro M
 refine aC aF Tryz.func15 rfl (by decide) (by simp[Tryz.f15]) ?_
 have la:=aU Ch.av o.ch
 have k1:=xC o.client 1000000
 have k2:=xC o.seq 1000000000
 have k3:=xC o.session 1000000
 have k4:=xC o.at_ 1000000000
 have kb:=qE o.ch .none ho.1 ho.2
 unfold fT yH
 unfold gS at kb
 generalize IR o.client 1000000=b1 at*
 generalize IR o.seq 1000000000=b3 at*
 generalize IR o.session 1000000=b4 at*
 generalize IR o.at_ 1000000000=b5 at*
 generalize cL o.ch=b6 at*
 cases b1
 ·repeat' (first|refine zA rfl ?_|refine aA ?_|refine aJ rfl ?_|refine aD rfl k1 ?_)
  exact⟨rfl,_,rfl,rfl,rfl⟩
 cases d2:decide (o.seq < 1)
 case true=>
  repeat' (first|refine zB rfl d2 ?_|refine zA rfl ?_|refine aA ?_|refine aJ rfl ?_|refine aD rfl k1 ?_)
  exact⟨rfl,_,rfl,rfl,rfl⟩
 cases b3
 ·repeat' (first|refine zB rfl d2 ?_|refine zA rfl ?_|refine aA ?_|refine aJ rfl ?_|refine aD rfl k1 ?_|refine aD rfl k2 ?_)
  exact⟨rfl,_,rfl,rfl,rfl⟩
 cases b4
 ·repeat' (first|refine zB rfl d2 ?_|refine zA rfl ?_|refine aA ?_|refine aJ rfl ?_|refine aD rfl k1 ?_|refine aD rfl k2 ?_|refine aD rfl k3 ?_)
  exact⟨rfl,_,rfl,rfl,rfl⟩
 cases b5
 ·repeat' (first|refine zB rfl d2 ?_|refine zA rfl ?_|refine aA ?_|refine aJ rfl ?_|refine aD rfl k1 ?_|refine aD rfl k2 ?_|refine aD rfl k3 ?_|refine aD rfl k4 ?_)
  exact⟨rfl,_,rfl,rfl,rfl⟩
 by_cases h1:o.kind=1
 ·have e1:decide (o.kind=1)=true:=by simp[h1]
  rw[if_pos h1]
  cases b6
  ·repeat' (first|refine zB rfl (by first|exact d2|exact e1) ?_|refine zA rfl ?_|refine aA ?_|refine aJ rfl ?_|refine aD rfl k1 ?_|refine aD rfl k2 ?_|refine aD rfl k3 ?_|refine aD rfl k4 ?_|refine aD rfl kb ?_)
   exact⟨rfl,_,rfl,rfl,rfl⟩
  ·cases d3:decide (o.session=0)
   ·repeat' (first|refine zB rfl (by first|exact d2|exact d3|exact e1) ?_|refine zA rfl ?_|refine aA ?_|refine aJ rfl ?_|refine aD rfl k1 ?_|refine aD rfl k2 ?_|refine aD rfl k3 ?_|refine aD rfl k4 ?_|refine aD rfl kb ?_)
    exact⟨rfl,_,rfl,rfl,rfl⟩
   ·repeat' (first|refine zB rfl (by first|exact d2|exact d3|exact e1) ?_|refine zA rfl ?_|refine aA ?_|refine aJ rfl ?_|refine aD rfl k1 ?_|refine aD rfl k2 ?_|refine aD rfl k3 ?_|refine aD rfl k4 ?_|refine aD rfl kb ?_)
    exact⟨rfl,_,rfl,rfl,rfl⟩
 have e1:decide (o.kind=1)=false:=by simp[h1]
 rw[if_neg h1]
 by_cases h2:o.kind=2
 ·have e2:decide (o.kind=2)=true:=by simp[h2]
  rw[if_pos h2]
  repeat' (first|refine zB rfl (by first|exact d2|exact e1|exact e2) ?_|refine zI rfl la ?_|refine zA rfl ?_|refine aA ?_|refine aJ rfl ?_|refine aD rfl k1 ?_|refine aD rfl k2 ?_|refine aD rfl k3 ?_|refine aD rfl k4 ?_)
  exact⟨rfl,_,rfl,rfl,rfl⟩
 have e2:decide (o.kind=2)=false:=by simp[h2]
 rw[if_neg h2]
 cases d5:decide ((o.ch.length:Int)=0)
 all_goals
  by_cases h3:o.kind=3
  ·have e3:decide (o.kind=3)=true:=by simp[h3]
   rw[if_pos h3]
   repeat' (first|refine zB rfl (by first|exact d2|exact d5|exact e1|exact e2|exact e3) ?_|refine zI rfl la ?_|refine zA rfl ?_|refine aA ?_|refine aJ rfl ?_|refine aD rfl k1 ?_|refine aD rfl k2 ?_|refine aD rfl k3 ?_|refine aD rfl k4 ?_)
   exact⟨rfl,_,rfl,rfl,rfl⟩
  have e3:decide (o.kind=3)=false:=by simp[h3]
  rw[if_neg h3]
  by_cases h4:o.kind=4
  ·have e4:decide (o.kind=4)=true:=by simp[h4]
   rw[if_pos h4]
   repeat' (first|refine zB rfl (by first|exact d2|exact d5|exact e1|exact e2|exact e3|exact e4) ?_|refine zI rfl la ?_|refine zA rfl ?_|refine aA ?_|refine aJ rfl ?_|refine aD rfl k1 ?_|refine aD rfl k2 ?_|refine aD rfl k3 ?_|refine aD rfl k4 ?_)
   exact⟨rfl,_,rfl,rfl,rfl⟩
  have e4:decide (o.kind=4)=false:=by simp[h4]
  rw[if_neg h4]
  repeat' (first|refine zB rfl (by first|exact d2|exact e1|exact e2|exact e3|exact e4) ?_|refine zA rfl ?_|refine aA ?_|refine aJ rfl ?_|refine aD rfl k1 ?_|refine aD rfl k2 ?_|refine aD rfl k3 ?_|refine aD rfl k4 ?_)
  exact⟨rfl,_,rfl,rfl,rfl⟩
theorem a8x (a b:Oo):decide (a=b)=(decide (a.client=b.client)&&decide (a.seq=b.seq)&&decide (a.kind=b.kind)&&decide (a.session=b.session)&&decide (a.at_=b.at_)&&decide (a.ch=b.ch)):=by
 obtain⟨a1,a2,a3,a4,a5,a6⟩:=a
 obtain⟨b1,b2,b3,b4,b5,b6⟩:=b
 rw[←Bool.decide_and,←Bool.decide_and,←Bool.decide_and,←Bool.decide_and,←Bool.decide_and]
 refine decide_eq_decide.2 ?_
 simp[and_assoc]
theorem u4 (a b:Oo) (ha:cN a) (hb:cN b):aN Tryz.prog 16 [a.av,b.av] (.bool (decide (a=b))):=by
 intro M
 refine aC aF Tryz.func16 rfl (by decide) (by simp[Tryz.f16]) ?_
 have k:=RT a.ch b.ch .none .none ha.1 hb.1 (fun c hc=>(ha.2 c hc).2) (fun c hc=>(hb.2 c hc).2)
 rw[a8x]
 unfold gS at k
 generalize decide (a.ch=b.ch)=b6 at*
 cases d1:decide (a.client=b.client)
 ·repeat' (first|refine zB rfl d1 ?_|refine zA rfl ?_|refine aA ?_|refine aJ rfl ?_)
  exact⟨rfl,_,rfl,rfl,rfl⟩
 cases d2:decide (a.seq=b.seq)
 ·repeat' (first|refine zB rfl (by first|exact d1|exact d2) ?_|refine zA rfl ?_|refine aA ?_|refine aJ rfl ?_)
  exact⟨rfl,_,rfl,rfl,rfl⟩
 cases d3:decide (a.kind=b.kind)
 ·repeat' (first|refine zB rfl (by first|exact d1|exact d2|exact d3) ?_|refine zA rfl ?_|refine aA ?_|refine aJ rfl ?_)
  exact⟨rfl,_,rfl,rfl,rfl⟩
 cases d4:decide (a.session=b.session)
 ·repeat' (first|refine zB rfl (by first|exact d1|exact d2|exact d3|exact d4) ?_|refine zA rfl ?_|refine aA ?_|refine aJ rfl ?_)
  exact⟨rfl,_,rfl,rfl,rfl⟩
 cases d5:decide (a.at_=b.at_)
 ·repeat' (first|refine zB rfl (by first|exact d1|exact d2|exact d3|exact d4|exact d5) ?_|refine zA rfl ?_|refine aA ?_|refine aJ rfl ?_)
  exact⟨rfl,_,rfl,rfl,rfl⟩
 repeat' (first|refine zB rfl (by first|exact d1|exact d2|exact d3|exact d4|exact d5) ?_|refine zA rfl ?_|refine aA ?_|refine aJ rfl ?_|refine aD rfl k ?_)
 exact⟨rfl,_,rfl,rfl,rfl⟩
def EH (o:Oo):Bool:=ND o.ch||decide (25 < o.ch.length)
def lH (l:List Oo):Bool:=decide (30 < l.length)||l.any EH
theorem pF {l:List Oo} (h:lH l=false):l.length≤30∧∀o,o∈l→EH o=false:=by
 unfold lH at h
 simp only[Bool.or_eq_false_iff,decide_eq_false_iff_not,List.any_eq_false] at h
 exact⟨by omega,fun o ho=>by simpa using h.2 o ho⟩
def BD (l:List Oo) (t:eI):AV:=.sl 6 (l.map Oo.av) t
theorem kZ (l:List Oo) {t:eI} (h:t=.none∨t=.full):aP (BD l t):=c8 h (fun x hx=>by obtain⟨p,_,rfl⟩:=List.mem_map.1 hx;exact cH p) (fun x hx=>by obtain⟨p,_,rfl⟩:=List.mem_map.1 hx;exact B9 p)
theorem oS (l:List Oo) (tg:eI) (hl:l.length < 4611686018427387904) (hs:∀o,o∈l→o.ch.length < 4611686018427387904):aN Tryz.prog 8 [BD l tg] (.bool (lH l)):=by
 intro M
 refine aC aF Tryz.func8 rfl (by decide) (by simp[Tryz.f8]) ?_
 have la:=aU Oo.av l
 unfold BD
 by_cases h30:l.length≤30
 ·have d30:decide ((l.length:Int)≤30)=true:=decide_eq_true (by omega)
  have d31:decide ((l.length:Int) > 30)=false:=decide_eq_false (by omega)
  have e30:decide (30 < l.length)=false:=decide_eq_false (by omega)
  repeat' (first|refine zA rfl ?_|refine aA ?_|refine aJ rfl ?_)
  refine aX l.length (fun i f N=>N=M∧(∀(j:Nat) y,j < i→l[j]? =some y→EH y=false)∧f=⟨[(0,.sl 6 (l.map Oo.av) tg),(3,.int .i64 (i:Int))],[]⟩) (Nat.zero_le _) ⟨rfl,(fun j y hj=>absurd hj (Nat.not_lt_zero _)),rfl⟩ (aM.le ?_ (aI.le_refl _)) ?_
  ·skip
   repeat (refine AF.le_cons rfl ?_)
   exact AF.le_nil rfl
  rintro i f N hi ⟨rfl,hno,rfl⟩
  by_cases g1:i < l.length
  ·have d1:decide ((i:Int) < (l.length:Int))=true:=decide_eq_true (by omega)
   have hx:l[i]? =some l[i]:=List.getElem?_eq_getElem g1
   have fi:=aQ (i:=i) (by omega)
   have hxs:=hs l[i] (List.getElem_mem g1)
   have hm:=List.getElem_mem g1
   generalize l[i]=x at hx hxs hm
   have lx:=aU Ch.av x.ch
   have k:=a1c x.ch .none hxs
   unfold gS at k
   have d6:decide ((x.ch.length:Int) > 25)=decide (25 < x.ch.length):=decide_eq_decide.2 (by omega)
   have eb:EH x=(ND x.ch||decide (25 < x.ch.length)):=rfl
   have hit:EH x=true→lH l=true:=fun h=>by
    unfold lH
    rw[List.any_eq_true.2 ⟨x,hm,h⟩,Bool.or_true]
   have nxt:EH x=false→∀(j:Nat) y,j < i+1→l[j]? =some y→EH y=false:=fun h j y hj hy=>by
    by_cases hji:j=i
    ·subst hji
     rw[hx] at hy
     cases hy
     exact h
    ·exact hno j y (by omega) hy
   generalize ND x.ch=b1 at k eb
   generalize decide (25 < x.ch.length)=b2 at d6 eb
   cases b1
   ·cases b2
    ·repeat' (first|refine zB rfl (by first|exact d1|exact d30|exact d6) ?_|refine zI rfl (by first|exact la|exact fi|exact lx) ?_|refine zA rfl ?_|refine aA ?_|refine aJ rfl ?_|refine aD rfl k ?_|refine zX rfl (c7 hx) ?_)
     refine⟨g1,_,_,⟨rfl,nxt eb,rfl⟩,aM.le ?_ (aI.le_refl _)⟩
     repeat (refine AF.le_cons rfl ?_)
     exact AF.le_nil rfl
    ·rw[hit eb]
     repeat' (first|refine zB rfl (by first|exact d1|exact d30|exact d6) ?_|refine zI rfl (by first|exact la|exact lx) ?_|refine zA rfl ?_|refine aA ?_|refine aJ rfl ?_|refine aD rfl k ?_|refine zX rfl (c7 hx) ?_)
     exact⟨rfl,_,rfl,rfl,rfl⟩
   ·rw[hit (by rw[eb];rfl)]
    repeat' (first|refine zB rfl (by first|exact d1|exact d30) ?_|refine zI rfl la ?_|refine zA rfl ?_|refine aA ?_|refine aJ rfl ?_|refine aD rfl k ?_|refine zX rfl (c7 hx) ?_)
    exact⟨rfl,_,rfl,rfl,rfl⟩
  ·have d1:decide ((i:Int) < (l.length:Int))=false:=decide_eq_false (by omega)
   obtain rfl:i=l.length:=by omega
   have e:lH l=false:=by
    unfold lH
    rw[e30,Bool.false_or,List.any_eq_false]
    intro y hy
    obtain⟨j,hj⟩:=List.mem_iff_getElem?.1 hy
    simp[hno j y (List.getElem?_eq_some_iff.1 hj).1 hj]
   rw[e]
   repeat' (first|refine zB rfl (by first|exact d1|exact d31) ?_|refine zI rfl la ?_|refine zA rfl ?_|refine aA ?_|refine aJ rfl ?_)
   exact⟨rfl,_,rfl,rfl,rfl⟩
 ·have d30:decide ((l.length:Int)≤30)=false:=decide_eq_false (by omega)
  have d31:decide ((l.length:Int) > 30)=true:=decide_eq_true (by omega)
  have d1:decide ((0:Int) < (l.length:Int))=true:=decide_eq_true (by omega)
  have e:lH l=true:=by
   unfold lH
   rw[decide_eq_true (by omega:30 < l.length)]
   rfl
  rw[e]
  repeat' (first|refine zA rfl ?_|refine aA ?_|refine aJ rfl ?_)
  refine aX 0 (fun i f N=>N=M∧f=⟨[(0,.sl 6 (l.map Oo.av) tg),(3,.int .i64 0)],[]⟩) (Nat.le_refl _) ⟨rfl,rfl⟩ (aM.le ?_ (aI.le_refl _)) ?_
  ·skip
   repeat (refine AF.le_cons rfl ?_)
   exact AF.le_nil rfl
  rintro i f N hi ⟨rfl,rfl⟩
  repeat' (first|refine zB rfl (by first|exact d1|exact d30|exact d31) ?_|refine zI rfl la ?_|refine zA rfl ?_|refine aA ?_|refine aJ rfl ?_)
  exact⟨rfl,_,rfl,rfl,rfl⟩
structure Pr where
 key:Ky
 val:aG
deriving DecidableEq
def Pr.av (p:Pr):AV:=.agg [.str p.key.path,.int .i64 p.key.time,.str p.val]
theorem fU (a:Ky):bG a a=false:=by
 cases h:bG a a
 ·rfl
 ·exact h.symm.trans (i8 h)
theorem wD {a b c:Ky} (h1:bG a b=true) (h2:bG c b=false):bG a c=true:=by
 by_cases h:b=c
 ·exact h ▸ h1
 ·rcases wT h with h3|h3
  ·exact lM h1 h3
  ·rw[h3] at h2;cases h2
abbrev cJ (l:List Pr):Prop:=l.Pairwise fun a b=>bG a.key b.key=true
def cV:List Pr→Pr→List Pr
 |[],p=>[p]
 |q::r,p=>if bG q.key p.key=true then q::cV r p else if q.key=p.key then p::r else p::q::r
def dJ:List Pr→Ky→List Pr
 |[],_=>[]
 |q::r,k=>if bG q.key k=true then q::dJ r k else if q.key=k then r else q::r
def eX (l:List Pr) (k:Ky):List Pr:=l.dropWhile fun p=>bG p.key k
def dF (l:List Pr) (k:Ky):Nat:=(l.takeWhile fun p=>bG p.key k).length
theorem zV {l:List Pr} {p x:Pr} (h:x∈cV l p):x=p∨x∈l:=by
 induction l with
 |nil=>simpa [cV] using h
 |cons q r ih=>
  simp only[cV] at h
  split at h
  ·rcases List.mem_cons.1 h with h|h
   ·exact .inr (by simp[h])
   ·rcases ih h with h|h
    ·exact .inl h
    ·exact .inr (by simp[h])
  ·split at h
   ·rcases List.mem_cons.1 h with h|h
    ·exact .inl h
    ·exact .inr (by simp[h])
   ·rcases List.mem_cons.1 h with h|h
    ·exact .inl h
    ·exact .inr h
theorem T5 {l:List Pr} {p:Pr} (h:cJ l):cJ (cV l p):=by
 induction l with
 |nil=>simp[cV,cJ]
 |cons q r ih=>
  obtain⟨h1,h2⟩:=List.pairwise_cons.1 h
  simp only[cV]
  split
  ·rename_i hq
   refine List.pairwise_cons.2 ⟨fun x hx=>?_,ih h2⟩
   rcases zV hx with rfl|hx
   ·exact hq
   ·exact h1 x hx
  ·rename_i hq
   split
   ·rename_i he
    refine List.pairwise_cons.2 ⟨fun x hx=>?_,h2⟩
    rw[←he]
    exact h1 x hx
   ·rename_i he
    have hpq:bG p.key q.key=true:=(wT he).resolve_left hq
    refine List.pairwise_cons.2 ⟨fun x hx=>?_,h⟩
    rcases List.mem_cons.1 hx with rfl|hx
    ·exact hpq
    ·exact lM hpq (h1 x hx)
theorem v6 (l:List Pr) (k:Ky):(dJ l k).Sublist l:=by
 induction l with
 |nil=>exact List.Sublist.refl _
 |cons q r ih=>
  simp only[dJ]
  split
  ·exact ih.cons_cons q
  ·split
   ·exact List.sublist_cons_self q r
   ·exact List.Sublist.refl _
theorem zD {l:List Pr} {k:Ky} (h:cJ l):cJ (dJ l k):=h.sublist (v6 l k)
theorem SX (l:List Pr) (k:Ky):l.length≤(dJ l k).length+1:=by
 induction l with
 |nil=>simp
 |cons q r ih=>
  simp only[dJ]
  split
  ·simp;omega
  ·split<;>simp
theorem AA {a b:List Pr} {p:Pr} (h:∀x,x∈a→bG x.key p.key=true):cV (a++b) p=a++cV b p:=by
 induction a with
 |nil=>rfl
 |cons q r ih=>
  show cV (q::(r++b)) p=_
  rw[cV,if_pos (h q (by simp)),ih (fun x hx=>h x (by simp[hx]))]
  rfl
theorem JO {a b:List Pr} {k:Ky} (h:∀x,x∈a→bG x.key k=true):dJ (a++b) k=a++dJ b k:=by
 induction a with
 |nil=>rfl
 |cons q r ih=>
  show dJ (q::(r++b)) k=_
  rw[dJ,if_pos (h q (by simp)),ih (fun x hx=>h x (by simp[hx]))]
  rfl
theorem w8 {a b:List Pr} {k:Ky} (h:∀x,x∈a→bG x.key k=true):eX (a++b) k=eX b k:=by
 induction a with
 |nil=>rfl
 |cons q r ih=>
  unfold eX at ih ⊢
  rw[List.cons_append,List.dropWhile_cons,if_pos (h q (by simp)),ih (fun x hx=>h x (by simp[hx]))]
theorem JT {a b:List Pr} {p:Pr} (h:∀x,x∈b→bG p.key x.key=true):cV (a++b) p=cV a p++b:=by
 induction a with
 |nil=>
  cases b with
  |nil=>rfl
  |cons q r=>
   have hq:=h q (by simp)
   show cV (q::r) p=p::(q::r)
   rw[cV,if_neg (by rw[i8 hq];simp),if_neg]
   intro he
   rw[he,fU] at hq
   cases hq
 |cons q r ih=>
  show cV (q::(r++b)) p=cV (q::r) p++b
  rw[cV,cV,ih]
  split
  ·rfl
  ·split<;>rfl
theorem FN {a b:List Pr} {k:Ky} (h:∀x,x∈b→bG k x.key=true):dJ (a++b) k=dJ a k++b:=by
 induction a with
 |nil=>
  cases b with
  |nil=>rfl
  |cons q r=>
   have hq:=h q (by simp)
   show dJ (q::r) k=q::r
   rw[dJ,if_neg (by rw[i8 hq];simp),if_neg]
   intro he
   rw[he,fU] at hq
   cases hq
 |cons q r ih=>
  show dJ (q::(r++b)) k=dJ (q::r) k++b
  rw[dJ,dJ,ih]
  split
  ·rfl
  ·split<;>rfl
theorem t1 {a b:List Pr} {k:Ky} (h:∀x,x∈b→bG x.key k=false):eX (a++b) k=eX a k++b:=by
 induction a with
 |nil=>
  cases b with
  |nil=>rfl
  |cons q r=>
   show eX (q::r) k=q::r
   unfold eX
   rw[List.dropWhile_cons,if_neg (by rw[h q (by simp)];simp)]
 |cons q r ih=>
  unfold eX at ih ⊢
  rw[List.cons_append,List.dropWhile_cons,List.dropWhile_cons,ih]
  split<;>rfl
def Vt:Nat→Type
 |0=>List Pr
 |h+1=>List (Vt h)
abbrev Vt.row (l:Vt 0):List Pr:=l
abbrev Vt.kids {h:Nat} (l:Vt (h+1)):List (Vt h):=l
def bE:(h:Nat)→Vt h→List Pr
 |0,l=>l
 |h+1,l=>(l.kids.map (bE h)).flatten
abbrev bF (h:Nat) (l:List (Vt h)):List Pr:=(l.map (bE h)).flatten
def fL:(h:Nat)→Vt h→Nat
 |0,l=>l.row.length
 |_+1,l=>l.kids.length
def lE:(h:Nat)→Vt h→Prop
 |0,l=>2≤l.row.length∧l.row.length≤4
 |h+1,l=>2≤l.kids.length∧l.kids.length≤4∧∀k,k∈l.kids→lE h k
def ML:(h:Nat)→Vt h→Prop
 |0,l=>l.row.length≤4
 |h+1,l=>lE (h+1) l
def bB {α:Type} (l:List α):List (List α):=if l.length≤4 then [l] else [l.take (l.length/2),l.drop (l.length/2)]
def cY (h:Nat) (v:Vt h):Ky:=((bE h v).headD ⟨⟨[],0⟩,[]⟩).key
def bK {h:Nat} (l:List (Vt h)) (k:Ky):Nat:=(l.findIdx fun v=>bG k (cY h v)) - 1
def eD {α:Type} (l:List α) (i many:Nat) (m:List α):List α:=l.take i++(m++l.drop (i+many))
def iD:(h:Nat)→Vt h→Pr→List (Vt h)
 |0,l,p=>bB (cV l.row p)
 |h+1,l,p=>bB (eD l.kids (bK l.kids p.key) 1 (match l.kids[bK l.kids p.key]? with
  |some kid=>iD h kid p
  |none=>[]))
def eQ:(h:Nat)→Vt h→Vt h→List (Vt h)
 |0,a,b=>bB (a.row++b.row)
 |_+1,a,b=>bB (a.kids++b.kids)
def YW {h:Nat} (l:List (Vt h)) (i:Nat) (kid:Vt h):List (Vt h):=
 if 2≤fL h kid then eD l i 1 [kid]
 else if 0 < i then (match l[i - 1]? with
  |some y=>eD l (i - 1) 2 (eQ h y kid)
  |none=>l)
 else (match l[1]? with
  |some y=>eD l 0 2 (eQ h kid y)
  |none=>l)
def bC:(h:Nat)→Vt h→Ky→Vt h
 |0,l,k=>dJ l.row k
 |h+1,l,k=>match l.kids[bK l.kids k]? with
  |none=>l
  |some x=>YW l.kids (bK l.kids k) (bC h x k)
theorem FR:∀(h:Nat) (v:Vt h),lE h v→bE h v≠[]
 |0,l,hv=>by
  intro he
  have h1:2≤l.row.length:=hv.1
  have h2:l.row=[]:=he
  rw[h2] at h1
  simp at h1
 |h+1,l,hv=>by
  obtain⟨h1,h2,h3⟩:=hv
  intro he
  have he':(l.kids.map (bE h)).flatten=[]:=he
  cases hl:l.kids with
  |nil=>rw[hl] at h1;simp at h1
  |cons a r=>
   rw[hl] at he'
   simp only[List.map_cons,List.flatten_cons,List.append_eq_nil_iff] at he'
   exact FR h a (h3 a (by rw[hl];simp)) he'.1
theorem jC {h:Nat} {v:Vt h} (hv:lE h v):ML h v:=by
 cases h with
 |zero=>exact hv.2
 |succ h=>exact hv
theorem D3 {h:Nat} {v:Vt h} (hv:lE h v):∃p,p∈bE h v∧p.key=cY h v:=by
 have:=FR h v hv
 unfold cY
 cases hl:bE h v with
 |nil=>exact absurd hl this
 |cons q r=>exact⟨q,by simp,rfl⟩
theorem VJ {h:Nat} {v:Vt h} (hr:cJ (bE h v)):∀p,p∈bE h v→bG p.key (cY h v)=false:=by
 unfold cY
 cases hl:bE h v with
 |nil=>simp
 |cons q r=>
  rw[hl] at hr
  intro p hp
  rcases List.mem_cons.1 hp with rfl|hp
  ·exact fU _
  ·exact i8 ((List.pairwise_cons.1 hr).1 p hp)
theorem GX {α:Type} (l:List α):(bB l).flatten=l:=by
 unfold bB
 split<;>simp
theorem gG {α:Type} (l:List α):(bB l).length=if l.length≤4 then 1 else 2:=by
 unfold bB
 split<;>rfl
theorem pP {α:Type} {l:List α} (h2:2≤l.length) (h8:l.length≤8):∀x,x∈bB l→2≤x.length∧x.length≤4∧∀y,y∈x→y∈l:=by
 intro x hx
 unfold bB at hx
 split at hx
 ·simp at hx;subst hx
  exact⟨h2,by omega,fun y h=>h⟩
 ·simp at hx
  rcases hx with rfl|rfl
  ·exact⟨by simp;omega,by simp;omega,fun y h=>List.mem_of_mem_take h⟩
  ·exact⟨by simp;omega,by simp;omega,fun y h=>List.mem_of_mem_drop h⟩
theorem E7 {α:Type} {l:List α} (h:l.length≤4):bB l=[l]:=by
 unfold bB
 rw[if_pos h]
theorem wK (l:List Pr):bF 0 (bB l:List (Vt 0))=l:=by
 have:bF 0 (bB l:List (Vt 0))=(bB l).flatten:=by
  have e:(bB l:List (Vt 0)).map (bE 0)=bB l:=List.map_id (α:=List Pr) (bB l)
  exact congrArg List.flatten e
 rw[this,GX]
theorem vZ {h:Nat} (l:List (Vt h)):bF (h+1) (bB l:List (Vt (h+1)))=bF h l:=by
 unfold bB
 split
 ·show (bE (h+1) l::[]).flatten=_
  simp[bE,Vt.kids]
 ·show (bE (h+1) (l.take (l.length/2))::bE (h+1) (l.drop (l.length/2))::[]).flatten=_
  show (bF h (l.take (l.length/2)))++((bF h (l.drop (l.length/2)))++[])=_
  unfold bF
  rw[List.append_nil,←List.flatten_append,←List.map_append,List.take_append_drop]
theorem bS {h:Nat} (a b:List (Vt h)):bF h (a++b)=bF h a++bF h b:=by simp[bF]
theorem kI {h:Nat} {l:List (Vt h)} (h0:l≠[]) (hk:∀v,v∈l→lE h v) (hr:cJ (bF h l)) (k:Ky):
  ∃(a:List (Vt h)) (v:Vt h) (b:List (Vt h)),l=a++v::b∧bK l k=a.length∧l[bK l k]? =some v∧(∀x,x∈bF h a→bG x.key k=true)∧(∀x,x∈bF h b→bG k x.key=true):=by
 have hlt:bK l k < l.length:=by
  have h1:(l.findIdx fun v=>bG k (cY h v))≤l.length:=List.findIdx_le_length
  have h2:0 < l.length:=List.length_pos_iff.2 h0
  unfold bK
  omega
 refine⟨l.take (bK l k),l[bK l k],l.drop (bK l k+1),?_,by simp;omega,List.getElem?_eq_getElem hlt,?_,?_⟩
 ·have:=List.take_append_drop (bK l k) l
  rw[List.drop_eq_getElem_cons hlt] at this
  exact this.symm
 ·intro x hx
  by_cases h0':bK l k=0
  ·rw[h0'] at hx
   simp[bF] at hx
  ·-- the one is not behind k: all ahead of it are ahead of k
   have hi:bK l k < (l.findIdx fun v=>bG k (cY h v)):=by unfold bK at h0' ⊢;omega
   have hnot:=List.not_of_lt_findIdx hi
   have hv:=hk l[bK l k] (List.getElem_mem hlt)
   obtain⟨q,hq,hqk⟩:=D3 hv
   have hl:bF h l=bF h (l.take (bK l k))++(bE h l[bK l k]++bF h (l.drop (bK l k+1))):=by
    have e:l=l.take (bK l k)++([l[bK l k]]++l.drop (bK l k+1)):=by
     have:=List.take_append_drop (bK l k) l
     rw[List.drop_eq_getElem_cons hlt] at this
     exact this.symm
    conv=>lhs;rw[e]
    rw[bS,bS]
    simp[bF]
   rw[hl] at hr
   have h3:=(List.pairwise_append.1 hr).2.2 x hx q (by simp[hq])
   rw[hqk] at h3
   have h4:bG k (cY h l[bK l k])=false:=by simpa using hnot
   exact wD h3 h4
 ·intro x hx
  by_cases h1:(l.findIdx fun v=>bG k (cY h v)) < l.length
  ·have h2:=List.findIdx_getElem (w:=h1)
   generalize hj:(l.findIdx fun v=>bG k (cY h v))=j at h1 h2
   have hv:=hk l[j] (List.getElem_mem h1)
   have hge:j≤bK l k+1:=by unfold bK;omega
   have hx':x∈bF h (l.drop j):=by
    unfold bF at hx ⊢
    simp only[List.mem_flatten,List.mem_map] at hx ⊢
    obtain⟨r,⟨v,hv1,rfl⟩,hv2⟩:=hx
    refine⟨_,⟨v,?_,rfl⟩,hv2⟩
    have:l.drop (bK l k+1)=(l.drop j).drop (bK l k+1 - j):=by
     rw[List.drop_drop];congr 1;omega
    rw[this] at hv1
    exact List.mem_of_mem_drop hv1
   have hd:l.drop j=l[j]::l.drop (j+1):=List.drop_eq_getElem_cons h1
   rw[hd] at hx'
   have hr2:cJ (bF h (l[j]::l.drop (j+1))):=by
    rw[←hd]
    have e:bF h l=bF h (l.take j)++bF h (l.drop j):=by rw[←bS,List.take_append_drop]
    rw[e] at hr
    exact (List.pairwise_append.1 hr).2.1
   have e2:bF h (l[j]::l.drop (j+1))=bE h l[j]++bF h (l.drop (j+1)):=by unfold bF;rw[List.map_cons,List.flatten_cons]
   rw[e2] at hr2 hx'
   rcases List.mem_append.1 hx' with hx'|hx'
   ·exact wD h2 (VJ (List.pairwise_append.1 hr2).1 x hx')
   ·obtain⟨q,hq,hqk⟩:=D3 hv
    have h3:=(List.pairwise_append.1 hr2).2.2 q hq x hx'
    rw[hqk] at h3
    exact lM h2 h3
  ·exfalso
   have h1':(l.findIdx fun v=>bG k (cY h v))=l.length:=by
    have:(l.findIdx fun v=>bG k (cY h v))≤l.length:=List.findIdx_le_length
    omega
   have h2:0 < l.length:=List.length_pos_iff.2 h0
   have:l.drop (bK l k+1)=[]:=by
    rw[List.drop_eq_nil_iff]
    unfold bK
    omega
   rw[this] at hx
   simp[bF] at hx
theorem tZ {α:Type} {a b m:List α} {x:α}:eD (a++x::b) a.length 1 m=a++(m++b):=by
 unfold eD
 rw[List.take_left,List.drop_append]
 simp
theorem eE {h:Nat} (v:Vt h) (b:List (Vt h)):bF h (v::b)=bE h v++bF h b:=by unfold bF;rw[List.map_cons,List.flatten_cons]
theorem yZ {h:Nat} (v:Vt h):bF h [v]=bE h v:=by unfold bF;simp
theorem m6 {a b c:List Pr} (h:cJ (a++(b++c))):cJ b:=(List.pairwise_append.1 (List.pairwise_append.1 h).2.1).1
theorem xA:∀(h:Nat) (v:Vt h) (p:Pr),ML h v→cJ (bE h v)→bF h (iD h v p)=cV (bE h v) p∧(iD h v p).length≤2∧1≤(iD h v p).length
 |0,l,p,hv,hr=>by
  refine⟨wK _,?_,?_⟩
  ·show (bB (cV l.row p)).length≤2
   rw[gG];split<;>omega
  ·show 1≤(bB (cV l.row p)).length
   rw[gG];split<;>omega
 |h+1,l,p,hv,hr=>by
  obtain⟨h1,h2,h3⟩:=hv
  have h0:l.kids≠[]:=by intro he;rw[he] at h1;simp at h1
  obtain⟨a,v,b,e1,e2,e3,e4,e5⟩:=kI h0 h3 hr p.key
  have hv:lE h v:=h3 v (by rw[e1];simp)
  have hall:bE (h+1) l=bF h a++(bE h v++bF h b):=by
   show bF h l.kids=_
   rw[e1,bS,eE]
  have hrv:cJ (bE h v):=by
   rw[hall] at hr
   exact m6 hr
  obtain⟨i1,_,_⟩:=xA h v p (jC hv) hrv
  have hp:iD (h+1) l p=(bB (a++(iD h v p++b)):List (List (Vt h))):=by
   show bB (eD l.kids (bK l.kids p.key) 1 (match l.kids[bK l.kids p.key]? with
    |some kid=>iD h kid p
    |none=>[]))=_
   rw[e3,e2]
   congr 1
   simp only
   have:eD l.kids a.length 1 (iD h v p)=eD (a++v::b) a.length 1 (iD h v p):=by rw[←e1]
   rw[this,tZ]
  refine⟨?_,?_,?_⟩
  ·rw[hp]
   refine (vZ _).trans ?_
   rw[bS,bS,i1,hall,AA e4,JT e5]
  ·rw[hp]
   show (bB _).length≤2
   rw[gG];split<;>omega
  ·rw[hp]
   show 1≤(bB _).length
   rw[gG];split<;>omega
end Go.Proofs.YthnhbmlefiafaaaGreatDoor
