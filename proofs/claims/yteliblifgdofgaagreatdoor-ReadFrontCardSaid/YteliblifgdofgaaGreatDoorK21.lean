/- Parts of the proof, one behind the other. No further condition. -/
import Derived.Test.YteliblifgdofgaaGreatDoorK20
import Derived.Test.YteliblifgdofgaaGreatDoorK08
import Derived.Test.YteliblifgdofgaaGreatDoorK15
import Derived.Test.YteliblifgdofgaaGreatDoorK16
import Derived.Test.YteliblifgdofgaaGreatDoorK18
import Derived.Test.YteliblifgdofgaaGreatDoorK14
set_option linter.unusedVariables false
set_option linter.unusedSimpArgs false
set_option maxRecDepth 100000
set_option maxHeartbeats 8000000
namespace Go.Ab
open Go.RowKit
def MN (M:aG) (sz:Nat) (x:AV) (m:Nat) (cs:List AV):Prop:=
 (∃ys t,x=.sl sz ys t∧m=ys.length∧cs=b8 ys∧∀y,y∈ys→y.cells.length=sz)∨
 (∃id off cap l,x=.osl id off m cap sz∧M.get id=some (.cells l)∧off+m*sz≤l.length∧cs=(l.drop off).take (m*sz))
theorem MN.len {M:aG} {sz:Nat} {x:AV} {m:Nat} {cs:List AV} (h:MN M sz x m cs):cs.length=m*sz:=by
 rcases h with ⟨ys,t,rfl,rfl,rfl,h⟩|⟨id,off,cap,l,rfl,h1,h2,rfl⟩
 ·exact bZ h
 ·rw[List.length_take,List.length_drop]
  omega
theorem D3 {P:Program} {μ:Mu} {F:c8} {M:aG} {w:World} (hg:dY μ F M w) {sz:Nat} {x:AV} {m:Nat} {cs:List AV} (h:MN M sz x m cs) {v:Value} (hr:bP μ F w x v):
  ∃(A:Option Addr) (cap:Nat) (vs:List Value),v=.slice A m cap∧vs.length=m*sz∧(∀k,k≤m→(Builtin.firstCells sz k v).run P w=.ok (vs.take (k*sz)).toArray w)∧(∀u,u∈vs→u.oneCell'=true)∧∀(p:Nat) (c:AV) (u:Value),cs[p]? =some c→vs[p]? =some u→bP μ F w c u:=by
 rcases h with ⟨ys,t,rfl,rfl,rfl,hz⟩|⟨id,off,cap,l,rfl,hM,hl,rfl⟩
 ·obtain⟨A,cap,b,o,vals,rfl,hsz,hcap,hA,hat,htag⟩:=hr.sl_flat
  cases ys with
  |nil=>
   refine⟨A,cap,[],rfl,by simp,fun k hk=>?_,by simp,by simp⟩
   obtain rfl:k=0:=by simpa using hk
   cases A with
   |none=>simp[Builtin.firstCells]
   |some a=>simp[Builtin.firstCells,loadCells,loadCellsFrom]
  |cons x0 r=>
   have hA':=hA (by simp)
   subst hA'
   have hl:=bZ hsz
   obtain⟨h1,h2⟩:=pC (vals:=vals) hat
   refine⟨some ⟨b,o,none⟩,cap,(List.range (b8 (x0::r)).length).map vals,rfl,by rw[List.length_map,List.length_range,hl],fun k hk=>?_,h2,fun p c u hc hu=>?_⟩
   ·refine run_firstCells_some w sz k _ _ _ _ ?_ fun j u hu=>?_
    ·rw[List.length_take,List.length_map,List.length_range,hl]
     exact Nat.min_eq_left (Nat.mul_le_mul_right _ hk)
    ·rw[List.getElem?_take] at hu
     split at hu
     ·exact h1 j u hu
     ·cases hu
   ·have hp:p < (b8 (x0::r)).length:=(List.getElem?_eq_some_iff.1 hc).1
    rw[List.getElem?_map,List.getElem?_range hp] at hu
    simp at hu
    subst hu
    exact (hat p c hc).rep
 ·obtain⟨b,hb,rfl⟩:=eK hg hM hr
  obtain⟨b',c,tb,hb1,hb2,hb3,hb4,hb5⟩:=hg.obj id l hM
  rw[hb] at hb1
  cases hb1
  refine⟨some ⟨b,off,none⟩,cap,(c.toList.drop off).take (m*sz),rfl,?_,fun k hk=>?_,fun u hu=>?_,fun p a u hc hu=>?_⟩
  ·rw[List.length_take,List.length_drop,Array.length_toList]
   omega
  ·have hkm:=Nat.mul_le_mul_right sz hk
   refine run_firstCells_some w sz k _ _ _ _ ?_ fun j u hu=>?_
   ·rw[List.length_take,List.length_take,List.length_drop,Array.length_toList]
    omega
   ·rw[List.getElem?_take] at hu
    split at hu
    ·rw[List.getElem?_take] at hu
     split at hu
     ·rw[List.getElem?_drop,Array.getElem?_toList] at hu
      rw[Addr.add_lit]
      show w.cell? ⟨b,off+j,none⟩=some u
      rw[cF hb2]
      exact hu
     ·cases hu
    ·cases hu
  ·obtain⟨j,hj⟩:=List.getElem?_of_mem hu
   rw[List.getElem?_take] at hj
   split at hj
   ·rw[List.getElem?_drop,Array.getElem?_toList] at hj
    exact hb4 _ _ hj
   ·cases hj
  ·rw[List.getElem?_take] at hc hu
   split at hc
   ·rename_i hp
    rw[if_pos hp] at hu
    rw[List.getElem?_drop] at hc hu
    rw[Array.getElem?_toList] at hu
    exact hb5 _ _ _ hc hu
   ·cases hc
theorem tX {P:Program} {μ:Mu} {F:c8} {M:aG} {w:World} (hg:dY μ F M w) {id b off:Nat} {l cs:List AV} (hM:M.get id=some (.cells l)) (hb:μ id=some (.at b)) {vs:List Value} (hl:vs.length=cs.length) (hle:off+cs.length≤l.length)
  (h1:∀u,u∈vs→u.oneCell'=true) (h2:∀(p:Nat) (c:AV) (u:Value),cs[p]? =some c→vs[p]? =some u→bP μ F w c u):
  (∀j,j < vs.length→(w.cell? ⟨b,off+j,none⟩).isSome=true)∧(∀j,j < vs.length→w.frozen? ⟨b,off+j,none⟩=false)∧(storeCells ⟨b,off,none⟩ vs 0).run P w=.ok () (w.setCells b off vs)∧dQ w μ (w.setCells b off vs) μ∧dY μ F (M.set id (.cells (b9 l off cs))) (w.setCells b off vs):=by
 obtain⟨b',c,tb,hb1,hb2,hb3,hb4,hb5⟩:=hg.obj id l hM
 rw[hb] at hb1
 cases hb1
 obtain⟨hw,c',hc',hs',hget⟩:=gB b vs off c tb (0,0) w hb2 (by omega)
 have hin:∀k v,c'[k]? =some v→(off≤k∧k < off+cs.length∧vs[k - off]? =some v)∨(¬(off≤k∧k < off+cs.length)∧c[k]? =some v):=by
  intro k v hk
  rw[hget,hl] at hk
  split at hk
  ·rename_i h;exact .inl ⟨h.1,h.2,hk⟩
  ·rename_i h;exact .inr ⟨h,hk⟩
 have a1:∀j,j < vs.length→(w.cell? ⟨b,off+j,none⟩).isSome=true:=fun j hj=>by
  rw[cF hb2,Array.getElem?_eq_getElem (show off+j < c.size by omega)]
  rfl
 have a2:∀j,j < vs.length→w.frozen? ⟨b,off+j,none⟩=false:=fun j hj=>by simp[World.frozen?,hb2]
 refine⟨a1,a2,?_,lN hg hb hb2 hw (l:=b9 l off cs) hc' hs' (by rw[hs',hb3,bO]) (fun k v hk=>by
   rcases hin k v hk with ⟨_,_,h⟩|⟨_,h⟩
   ·exact h1 _ (List.mem_of_getElem? h)
   ·exact hb4 _ _ h) (fun k q v hq hk=>by
   rw[eZ _ _ _ _ hle] at hq
   rcases hin k v hk with ⟨ha,hb',h⟩|⟨hn',h⟩
   ·rw[if_pos ⟨ha,hb'⟩] at hq
    exact h2 _ _ _ hq h
   ·rw[if_neg hn'] at hq
    exact hb5 _ _ _ hq h)⟩
 have hst:=run_storeCells_cells (P:=P) b off vs 0 w (by simpa using a1) (by simpa using a2) h1
 simpa using hst
theorem Z0 {P:Program} {τ:Tab} (hτ:TabOK P τ) {td ts e:TypeId} {ti ei:TI} (ht:aJ τ td=some ti) (hk:ti.k=.slice e) (he:aJ τ e=some ei) {x y:Operand} {ty:TypeId} {ρ:Operand→AV} {M:aG} {id off n cap sz m k:Nat} {l cs:List AV}
  (hsz:sz=ei.size) (hx:ρ x=.osl id off n cap sz) (hM:M.get id=some (.cells l)) (hl:off+n*sz≤l.length) (hy:MN M sz (ρ y) m cs) (hkm:Nat.min m n=k):
  F9 P (.call {callee:=.builtin .copy,args:=#[x,y],argTypes:=#[td,ts]}) ty ρ M (.int .i64 k) (M.set id (.cells (b9 l off (cs.take (k*sz))))):=by
 subst hsz
 intro μ F w ρc o hg ho hty hr
 have hrx:=hr x (by simp[Op.operands,Call.operands])
 have hry:=hr y (by simp[Op.operands,Call.operands])
 rw[hx] at hrx
 obtain⟨b,hb,hv⟩:=eK hg hM hrx
 obtain⟨A,cap',vs,hvy,hvl,hf,h1,h2⟩:=D3 (P:=P) hg hy hry
 obtain⟨ft,dt,zt,HT⟩:=TI.spec hτ ht
 obtain⟨fe,de,ze,HE⟩:=TI.spec hτ he
 have hfi:=HT.fits
 rw[hk] at hfi
 have hdd:dt=.slice e:=by
  cases dt<;>simp[TK.fits] at hfi
  rw[hfi]
 subst hdd
 have hk1:k≤m:=by rw[←hkm];exact Nat.min_le_left _ _
 have hk2:k≤n:=by rw[←hkm];exact Nat.min_le_right _ _
 have hkm':=Nat.mul_le_mul_right ei.size hk1
 have hkn':=Nat.mul_le_mul_right ei.size hk2
 have hcl:=hy.len
 obtain⟨_,_,g3,g4,g5⟩:=tX (P:=P) hg (off:=off) (cs:=cs.take (k*ei.size)) hM hb (vs:=vs.take (k*ei.size)) (by rw[List.length_take,List.length_take];omega) (by rw[List.length_take];omega) (fun u hu=>h1 u (List.mem_of_mem_take hu)) (fun p c u hc hu=>by
  rw[List.getElem?_take] at hc hu
  split at hc
  ·rename_i hp
   rw[if_pos hp] at hu
   exact h2 p c u hc hu
  ·cases hc)
 have hf':=hf k hk1
 rw[hvy] at hf'
 refine⟨μ,.value (.int .i64 k),_,_,?_,.inl rfl,g4,g5,.int _ _⟩
 simp[execOp,ho,resolve,invoke,builtin,hv,hvy,Builtin.copy_,run_underlying HT.und,Builtin.lenOf,hkm,run_sizeOf w HE.info,HE.size,HE.cellsOf,hf',g3,goInt]
theorem K8 {P:Program} {e:TypeId} {ei:TI} {fe:TypeInfo} {de:TypeDesc} {ze:Value} (hp:0 < ei.size) (HE:KA P e ei fe de ze) (hzs:ze.cells.size=ei.size) (n:Nat) (u:Value) (hu:u∈Builtin.zeroCells ze.cells n):u.oneCell'=true:=
 j0 (z:=ze.cells) (fun u hu=>by
  obtain⟨j,hj⟩:=List.getElem?_of_mem (Array.mem_toList_iff.2 hu)
  have hjl:j < ei.zero.length:=by
   rw[HE.len,←hzs,←Array.length_toList]
   exact (List.getElem?_eq_some_iff.1 hj).1
  obtain⟨rfl,hp⟩:=(bV HE.cells).2 j u _ (by simpa using hj) (List.getElem?_eq_getElem hjl)
  exact oQ hp) (by rw[hzs];exact hp) _ u hu
theorem QI {P:Program} {τ:Tab} (hτ:TabOK P τ) {td e:TypeId} {ti ei:TI} (ht:aJ τ td=some ti) (hk:ti.k=.slice e) (he:aJ τ e=some ei) {x:Operand} {ty:TypeId} {ρ:Operand→AV} {M:aG} {id off n cap sz:Nat} {l:List AV}
  (hsz:sz=ei.size) (hx:ρ x=.osl id off n cap sz) (hM:M.get id=some (.cells l)) (hl:off+n*sz≤l.length) (hn:0 < n) (hp:0 < sz):
  F9 P (.call {callee:=.builtin .clear,args:=#[x],argTypes:=#[td]}) ty ρ M .top (M.set id (.cells (b9 l off (List.replicate (n*sz) .top)))):=by
 subst hsz
 intro μ F w ρc o hg ho hty hr
 have hrx:=hr x (by simp[Op.operands,Call.operands])
 rw[hx] at hrx
 obtain⟨b,hb,hv⟩:=eK hg hM hrx
 obtain⟨ft,dt,zt,HT⟩:=TI.spec hτ ht
 obtain⟨fe,de,ze,HE⟩:=TI.spec hτ he
 have hfi:=HT.fits
 rw[hk] at hfi
 have hdd:dt=.slice e:=by
  cases dt<;>simp[TK.fits] at hfi
  rw[hfi]
 subst hdd
 have hzs:ze.cells.size=ei.size:=by
  have:=(bV HE.cells).1
  simp only[Array.length_toList] at this
  rw[this,HE.len]
 have hzl:(Builtin.zeroCells ze.cells n).toList.length=n*ei.size:=by rw[Array.length_toList,size_zeroCells,hzs]
 obtain⟨_,_,g3,g4,g5⟩:=tX (P:=P) hg (off:=off) (cs:=List.replicate (n*ei.size) .top) hM hb (vs:=(Builtin.zeroCells ze.cells n).toList) (by rw[hzl,List.length_replicate]) (by rw[List.length_replicate];exact hl) (fun u hu=>K8 hp HE hzs n u (Array.mem_toList_iff.1 hu)) (fun p c u hc hu=>by
  rw[List.getElem?_replicate] at hc
  split at hc
  ·cases hc
   exact .top u
  ·cases hc)
 have hze:(zeroValue e).run P w=.ok ze w:=by simp[zeroValue,typeInfo,HE.info,HE.zero]
 obtain⟨m,rfl⟩:∃m,n=m+1:=⟨n - 1,by omega⟩
 refine⟨μ,.value (.tuple #[]),_,_,?_,.inl rfl,g4,g5,.top _⟩
 simp[execOp,ho,resolve,invoke,builtin,hv,Builtin.clear_,run_underlying HT.und,hze,g3]
theorem JB {P:Program} {τ:Tab} (hτ:TabOK P τ) {td tx e e':TypeId} {ti ei xi:TI} (ht:aJ τ td=some ti) (hk:ti.k=.slice e) (he:aJ τ e=some ei) (hxt:aJ τ tx=some xi) (hxk:xi.k=.slice e') {x y:Operand} {ty:TypeId} {ρ:Operand→AV} {M:aG} {id off n cap sz m:Nat} {l cs:List AV}
  (hsz:sz=ei.size) (hx:ρ x=.osl id off n cap sz) (hM:M.get id=some (.cells l)) (hl:off+(n+m)*sz≤l.length) (hy:MN M sz (ρ y) m cs) (hroom:n+m≤cap):
  F9 P (.call {callee:=.builtin .append,args:=#[x,y],argTypes:=#[td,tx]}) ty ρ M (.osl id off (n+m) cap sz) (M.set id (.cells (b9 l (off+n*sz) cs))):=by
 subst hsz
 intro μ F w ρc o hg ho hty hr
 have hrx:=hr x (by simp[Op.operands,Call.operands])
 have hry:=hr y (by simp[Op.operands,Call.operands])
 rw[hx] at hrx
 obtain⟨b,hb,hv⟩:=eK hg hM hrx
 obtain⟨A,cap',vs,hvy,hvl,hf,h1,h2⟩:=D3 (P:=P) hg hy hry
 obtain⟨ft,dt,zt,HT⟩:=TI.spec hτ ht
 obtain⟨fe,de,ze,HE⟩:=TI.spec hτ he
 obtain⟨fx,dx,zx,HX⟩:=TI.spec hτ hxt
 have hfi:=HT.fits
 rw[hk] at hfi
 have hdd:dt=.slice e:=by
  cases dt<;>simp[TK.fits] at hfi
  rw[hfi]
 subst hdd
 have hfx:=HX.fits
 rw[hxk] at hfx
 have hdx:dx=.slice e':=by
  cases dx<;>simp[TK.fits] at hfx
  rw[hfx]
 subst hdx
 have hcl:=hy.len
 have hmul:(n+m)*ei.size=n*ei.size+m*ei.size:=Nat.add_mul _ _ _
 obtain⟨_,_,g3,g4,g5⟩:=tX (P:=P) hg (off:=off+n*ei.size) (cs:=cs) hM hb (vs:=vs) (by omega) (by omega) h1 h2
 have hf':=hf m (Nat.le_refl _)
 rw[hvy,List.take_of_length_le (by omega)] at hf'
 refine⟨μ,.value (.slice (some ⟨b,off,none⟩) (n+m) cap),_,_,?_,.inl rfl,g4,g5,.osl _ _ _ _ _ _ rfl (by rw[hb];simp) (fun b' hb'=>by rw[hb] at hb';cases hb';rfl)⟩
 simp[execOp,ho,resolve,invoke,builtin,hv,hvy,Builtin.append_,run_underlying HT.und,run_underlying HX.und,Builtin.lenOf,run_sizeOf w HE.info,HE.size,HE.cellsOf,hroom,hf',g3,Addr.add_lit]
theorem TN {P:Program} {τ:Tab} (hτ:TabOK P τ) {t e:TypeId} {ti ei:TI} (ht:aJ τ t=some ti) (hk:ti.k=.slice e) (he:aJ τ e=some ei) {X:Operand} {L H:Option Operand} {ty:TypeId} {ρ:Operand→AV} {M:aG} {id off n cap sz:Nat} {l:List AV} {lo h:Nat}
  (hsz:sz=ei.size) (hX:ρ X=.osl id off n cap sz) (hM:M.get id=some (.cells l)) (hL:rK (L.map ρ) 0=some (lo:Int)) (hH:rK (H.map ρ) n=some (h:Int)) (h0:lo≤h) (h2:h≤cap):wR P (.slice t X L H none) ty ρ M (.osl id (if lo < cap then off+lo*sz else off) (h - lo) (cap - lo) sz):=by
 subst hsz
 intro μ F w ρc o hg ho hty hr
 have hx:=hr X (by simp[Op.operands])
 rw[hX] at hx
 obtain⟨b,hb,hv⟩:=eK hg hM hx
 obtain⟨ft,dt,zt,HT⟩:=TI.spec hτ ht
 obtain⟨fe,de,ze,HE⟩:=TI.spec hτ he
 have hf:=HT.fits
 rw[hk] at hf
 have hdd:dt=.slice e:=by
  cases dt<;>simp[TK.fits] at hf
  rw[hf]
 subst hdd
 have hbd:=kO (P:=P) (w:=w) (isS:=true) (n:=n) (m:=cap) (iD hL fun x hx=>hr x (by simp[Op.operands,hx])) (iD hH fun x hx=>hr x (by simp[Op.operands,hx])) (by omega) (by omega) (by omega)
 simp only[Int.toNat_natCast] at hbd
 refine⟨.slice (some ⟨b,if lo < cap then off+lo*ei.size else off,none⟩) (h - lo) (cap - lo),w,?_,Below.refl _ _,.osl _ _ _ _ _ _ rfl (by rw[hb];simp) (fun b' hb'=>by rw[hb] at hb';cases hb';rfl)⟩
 simp only[execOp,ho,hv,Instr.sliceAt,Sem.run_bind,run_underlying HT.und,Result.andThen_ok,Instr.slice,Option.map_none,hbd,run_sizeOf w HE.info,HE.cellsOf,HE.size,Sem.run_pure]
 by_cases g:lo < cap
 ·have g2:¬cap=lo:=by omega
  simp[g,g2,Addr.add_lit]
 ·have g2:cap=lo:=by omega
  simp[g2]
theorem U7 {P:Program} {τ:Tab} (hτ:TabOK P τ) {t:TypeId} {ti:TI} (ht:aJ τ t=some ti) {e:TypeId} (hk:ti.k=.slice e) {x:Operand} {ty:TypeId} {ρ:Operand→AV} {M:aG} {id off n cap sz:Nat} {l:List AV}
  (hx:ρ x=.osl id off n cap sz) (hM:M.get id=some (.cells l)):wR P (.call {callee:=.builtin .cap,args:=#[x],argTypes:=#[t]}) ty ρ M (.int .i64 cap):=by
 intro μ F w ρc o hg ho hty hr
 have h1:=hr x (by simp[Op.operands,Call.operands])
 rw[hx] at h1
 obtain⟨b,hb,hv⟩:=eK hg hM h1
 obtain⟨f,d,z,H⟩:=TI.spec hτ ht
 have hf:=H.fits
 rw[hk] at hf
 cases d<;>simp[TK.fits] at hf
 have hu:=H.und
 exact⟨_,w,by simp[execOp,ho,resolve,invoke,builtin,Builtin.cap_,hv,run_underlying hu,goInt],Below.refl _ _,.int _ _⟩
theorem WE {P:Program} {τ:Tab} (hτ:TabOK P τ) {t e:TypeId} {ti ei:TI} (ht:aJ τ t=some ti) (hk:ti.k=.slice e) (he:aJ τ e=some ei) {X L H Z:Operand} {ty:TypeId} {ρ:Operand→AV} {M:aG} {id off n cap sz:Nat} {l:List AV} {k1 k2 k3:IntKind} {lo h m:Nat}
  (hX:ρ X=.osl id off n cap sz) (hM:M.get id=some (.cells l)) (hL:ρ L=.int k1 (lo:Int)) (hH:ρ H=.int k2 (h:Int)) (hZ:ρ Z=.int k3 (m:Int)) (h0:lo≤h) (h1:h≤m) (h2:m≤cap):wR P (.slice t X (some L) (some H) (some Z)) ty ρ M .top:=by
 intro μ F w ρc o hg ho hty hr
 have hx:=hr X (by simp[Op.operands])
 have rl:=hr L (by simp[Op.operands])
 have rh:=hr H (by simp[Op.operands])
 have rz:=hr Z (by simp[Op.operands])
 rw[hX] at hx
 rw[hL] at rl
 rw[hH] at rh
 rw[hZ] at rz
 obtain⟨b,hb,hv⟩:=eK hg hM hx
 generalize hl:ρc L=vl at rl
 generalize hh:ρc H=vh at rh
 generalize hz:ρc Z=vz at rz
 cases rl
 cases rh
 cases rz
 obtain⟨ft,dt,zt,HT⟩:=TI.spec hτ ht
 obtain⟨fe,de,ze,HE⟩:=TI.spec hτ he
 have hf:=HT.fits
 rw[hk] at hf
 have hdd:dt=.slice e:=by
  cases dt<;>simp[TK.fits] at hf
  rw[hf]
 subst hdd
 have hbd:(Instr.sliceBounds true n cap (some (.int k1 (lo:Int))) (some (.int k2 (h:Int))) (some (.int k3 (m:Int)))).run P w=.ok (lo,h,m) w:=by
  simp[Instr.sliceBounds,Instr.sliceBound,asIntOf,h0,h1,h2]
 refine⟨.slice (if m=lo then some ⟨b,off,none⟩ else (some ⟨b,off,none⟩:Option Addr).map (·.add (lo*ei.size))) (h - lo) (m - lo),w,?_,Below.refl _ _,.top _⟩
 simp only[execOp,ho,hv,hl,hh,hz,Instr.sliceAt,Sem.run_bind,run_underlying HT.und,Result.andThen_ok,Instr.slice,Option.map_some,hbd,run_sizeOf w HE.info,HE.cellsOf,HE.size,Sem.run_pure]
theorem wN {P:Program} {t tx ty e:TypeId} {k:IntKind} {i:TypeInfo} {z:Value} (ht:P.underlying t=some (.slice e)) (hx:P.underlying tx=some (.int k)) (hi:P.info? e=some i) (hz:i.zero=some z) (a cap n:Nat) (h0:0 < n) (hg:cap < a+n) (h1:a+n≤140737488355328) (h2:(a+n)*i.bytes≤140737488355328) (hsz:0 < i.size) (w:World) (A:Option Addr) (olds:List Value)
  (hold:(Builtin.firstCells i.size a (.slice A a cap)).run P w.drew=.ok olds.toArray w.drew):
  (Builtin.append_ #[t,tx] ty #[.slice A a cap,.int .i64 n]).run P w=
   .ok (.slice (some ⟨w.heap.size,0,none⟩) (a+n) (grownCap w (a+n) cap e))
    (w.drew.alloc (.cells (olds.toArray++Builtin.zeroCells z.cells n++Builtin.zeroCells z.cells (grownCap w (a+n) cap e - (a+n))) e)):=by
 have hw:IntKind.wrap .i64 (n:Int)=n:=wrap_small (by omega) (by omega)
 have a1:¬((n:Int) < 0):=by omega
 have hnb:n*i.bytes≤140737488355328:=Nat.le_trans (Nat.mul_le_mul_right _ (Nat.le_add_left n a)) h2
 have a2:¬(281474976710656 < (n:Int)*(i.bytes:Int)):=by
  have:((n*i.bytes:Nat):Int)=(n:Int)*(i.bytes:Int):=by push_cast;rfl
  omega
 have a3:¬(9223372036854775807 < (a:Int)+(n:Int)):=by omega
 have a4:¬a+n≤cap:=by omega
 have a5:¬(281474976710656 < Builtin.nextslicecap (a+n) cap*i.bytes):=Nat.not_lt.2 (growslice_fits hg h2)
 have a8:¬(9223372036854775807 < (a:Int)+max (n:Int) 0):=by omega
 have a9:¬(n=0∨i.size=0):=by omega
 simp[Builtin.append_,run_underlying ht,run_underlying hx,sizeOf,typeInfo,zeroValue,hi,hz,hw,a1,a2,a3,a4,a5,a8,a9,Question.forced,newRow,grownCap,hold,asInt,asIntOf]
 intro h
 exact absurd (Nat.mul_eq_zero.1 h) a9
theorem wG {P:Program} {τ:Tab} (hτ:TabOK P τ) {t tx e:TypeId} {ti ei xi:TI} (hin:pY P τ t e ti ei) (hxi:aJ τ tx=some xi) (hxk:xi.k=.int .i64) {o:Oper} {s x:Operand}
  (ho:o.op=.call {callee:=.builtin .append,args:=#[s,x],argTypes:=#[t,tx]}) {ρ:Operand→AV} {M:aG} {id a cap sz n:Nat} {l:List AV} (hsz:sz=ei.size) (hS:ρ s=.osl id 0 a cap sz) (hM:M.get id=some (.cells l)) (hl:l.length=cap*sz) (hac:a≤cap) (hX:ρ x=.int .i64 (n:Int)) (h0:0 < n) (hg:cap < a+n)
  (hb:(a+n)*ei.bytes≤140737488355328) (hlen:a+n≤140737488355328) {Kp:AV→aG→Prop}:
  jD P o ρ M (fun u M'=>∃(cap':Nat) (l':List AV),a+n≤cap'∧l'.length=cap'*sz∧l'.take (a*sz)=l.take (a*sz)∧u=.osl M.next 0 (a+n) cap' sz∧M'=M.push (.cells l')) Kp:=by
 subst hsz
 intro μ F w ac hgam hr next Q' hnext _
 have hs:=hr s (by simp[ho,Op.operands,Call.operands])
 have hx:=hr x (by simp[ho,Op.operands,Call.operands])
 rw[hS] at hs
 rw[hX] at hx
 generalize hxe:ac.eval x=xe at hx
 cases hx
 obtain⟨b,hbm,hv⟩:=eK hgam hM hs
 obtain⟨b',c,tb,hb1,hb2,hb3,hb4,hb5⟩:=hgam.obj id l hM
 rw[hbm] at hb1
 cases hb1
 obtain⟨ft,dt,zt,HT⟩:=TI.spec hτ hin.tl
 obtain⟨fe,de,ze,HE⟩:=TI.spec hτ hin.el
 obtain⟨fx,dx,zx,HX⟩:=TI.spec hτ hxi
 have hfi:=HT.fits
 rw[hin.tk] at hfi
 have hdd:dt=.slice e:=by
  cases dt<;>simp[TK.fits] at hfi
  rw[hfi]
 subst hdd
 have hfx:=HX.fits
 rw[hxk] at hfx
 have hdx:dx=.int .i64:=by
  cases dx<;>simp[TK.fits] at hfx
  rw[hfx]
 subst hdx
 have hex:∀v w',(Builtin.append_ #[t,tx] o.type #[ac.eval s,ac.eval x]).run P w=.ok v w'→(execOp ac.eval o).run P w=.ok (.value v) w':=by
  intro v w' h
  simp[execOp,ho,resolve,invoke,builtin,h]
 unfold Oper.wp
 have hcs:a*ei.size≤c.size:=by rw[hb3,hl];exact Nat.mul_le_mul_right _ hac
 let olds:=c.toList.take (a*ei.size)
 have hol:olds.length=a*ei.size:=by simp[olds];omega
 have hold:(Builtin.firstCells fe.size a (.slice (some ⟨b,0,none⟩) a cap)).run P w.drew=.ok olds.toArray w.drew:=by
  rw[HE.size]
  refine run_firstCells_some w.drew ei.size a _ _ _ olds hol (fun j u hu=>?_)
  have hj:olds[j]? =c[j]? :=by
   have:j < a*ei.size:=by rw[←hol];exact (List.getElem?_eq_some_iff.1 hu).1
   simp only[olds,List.getElem?_take,if_pos this,Array.getElem?_toList]
  rw[hj] at hu
  have:=cF (o:=0+j) hb2
  rw[Addr.add_lit]
  show w.cell? ⟨b,0+j,none⟩=some u
  rw[this,Nat.zero_add]
  exact hu
 have hrun:=wN (ty:=o.type) (P:=P) HT.und HX.und HE.info HE.zero a cap n h0 hg hlen (by rw[HE.bytes];exact hb) (by rw[HE.size];exact hin.pos) w _ olds hold
 have hge:=grownCap_ge w (a+n) cap e
 generalize hcap:grownCap w (a+n) cap e=cap' at hrun hge
 have hzs:ze.cells.size=ei.size:=by
  have:=(bV HE.cells).1
  simp only[Array.length_toList] at this
  rw[this,HE.len]
 let zz:Array Value:=Builtin.zeroCells ze.cells n++Builtin.zeroCells ze.cells (cap' - (a+n))
 have hzz:zz.size=(cap' - a)*ei.size:=by
  simp only[zz,Array.size_append,size_zeroCells,hzs,←Nat.add_mul]
  congr 1
  omega
 let c':Array Value:=olds.toArray++zz
 let w':World:=w.drew.alloc (.cells c' e)
 have hc's:c'.size=cap'*ei.size:=by
  simp only[c',Array.size_append,List.size_toArray,hol,hzz,←Nat.add_mul]
  congr 1
  omega
 have hheap:w'.heap[w.heap.size]? =some (.cells c' e (0,0)):=heap_alloc_new w.drew _
 have hbelow:Below w.heap.size w w':=⟨rfl,rfl,rfl,by simp[w',World.alloc],fun k hk=>heap_alloc_old w.drew _ hk⟩
 let l':List AV:=l.take (a*ei.size)++List.replicate ((cap' - a)*ei.size) .top
 have hlt:(l.take (a*ei.size)).length=a*ei.size:=by rw[List.length_take,hl];exact Nat.min_eq_left (Nat.mul_le_mul_right _ hac)
 have hl':l'.length=cap'*ei.size:=by
  simp only[l',List.length_append,List.length_replicate,hlt,←Nat.add_mul]
  congr 1
  omega
 have hone:∀(m:Nat) (v:Value),v∈Builtin.zeroCells ze.cells m→v.oneCell'=true:=fun m v hm=>K8 hin.pos HE hzs m v hm
 obtain⟨hev,hG⟩:=j9 hgam hbelow (l:=l') (c:=c') (ty:=e) (b:=w.heap.size) (Nat.le_refl _) hheap (by rw[hc's,hl']) (by
   intro i v hi
   have hm:=Array.mem_of_getElem? hi
   rcases Array.mem_append.1 hm with h|h
   ·obtain⟨j,hj⟩:=List.getElem?_of_mem (List.mem_of_mem_take (List.mem_toArray.1 h))
    exact hb4 j v (by simpa using hj)
   ·rcases Array.mem_append.1 h with h|h
    ·exact hone _ v h
    ·exact hone _ v h) (by
   intro i q v hq hi
   simp only[l'] at hq
   simp only[c'] at hi
   by_cases h1:i < a*ei.size
   ·rw[List.getElem?_append_left (by rw[hlt];exact h1),List.getElem?_take,if_pos h1] at hq
    rw[Array.getElem?_append_left (by simp only[List.size_toArray];omega)] at hi
    simp only[List.getElem?_toArray] at hi
    simp only[olds,List.getElem?_take,if_pos h1,Array.getElem?_toList] at hi
    exact hb5 i q v hq hi
   ·rw[List.getElem?_append_right (by omega)] at hq
    have:=List.mem_of_getElem? hq
    rw[List.mem_replicate] at this
    rw[this.2]
    exact .top _)
 rw[hv,hxe] at hex
 have hrun2:=hex _ _ hrun
 have harr:olds.toArray++Builtin.zeroCells ze.cells n++Builtin.zeroCells ze.cells (cap' - (a+n))=c':=by simp only[c',zz,Array.append_assoc]
 rw[harr] at hrun2
 rw[hrun2]
 refine hnext _ _ _ _ _ hev hG (kS (b:=w.heap.size) (by simp[Mu.put])) ⟨cap',l',hge,hl',?_,rfl,rfl⟩
 simp only[l']
 rw[List.take_append_of_le_length (by omega),List.take_of_length_le (by omega)]
section
variable {P:Program} {τ:Tab} {ops:Array Oper} {cls:Nat→fQ} {Q:AX→AF→aG→Prop} {ds:List bJ} {ls:List Nat} {i:Nat} {o:Oper} {t:List (Nat×AV)} {M:aG}
theorem gA (hτ:TabOK P τ) {d:Nat} (hi:ops[i]? =some o) (hw:aT ops ⟨t,ds⟩ o=some true) (hd:o.dst=some d) (hc:pG (cls i)=true) {ty e:TypeId} {X:Operand} {L H:Option Operand} (ho:o.op=.slice ty X L H none) {id off n cap sz lo hh:Nat} {l:List AV}
  (hX:AF.ev ⟨t,ds⟩ X=.osl id off n cap sz) {ti ei:TI} (ht:aJ τ ty=some ti) (hk:ti.k=.slice e) (he:aJ τ e=some ei) (hsz:sz=ei.size) (hM:M.get id=some (.cells l)) (hL:rK (L.map (AF.ev ⟨t,ds⟩)) 0=some (lo:Int)) (hH:rK (H.map (AF.ev ⟨t,ds⟩)) n=some (hh:Int)) (h0:lo≤hh) (h2:hh≤cap) {off' n' cap':Nat} (e1:(if lo < cap then off+lo*sz else off)=off') (e2:hh - lo=n') (e3:cap - lo=cap')
  (h:DW P ops cls Q ds ls ((d,.osl id off' n' cap' sz)::t) M):DW P ops cls Q ds (i::ls) t M:=by
 subst e1 e2 e3
 exact jY hi hw hd hc (by rw[ho];exact TN hτ ht hk he hsz hX hM hL hH h0 h2) h
theorem a4e (hτ:TabOK P τ) {d:Nat} (hi:ops[i]? =some o) (hw:aT ops ⟨t,ds⟩ o=some true) (hd:o.dst=some d) (hc:pG (cls i)=true) {ty e:TypeId} {X L H Z:Operand} (ho:o.op=.slice ty X (some L) (some H) (some Z)) {id off n cap sz lo hh m:Nat} {l:List AV} {k1 k2 k3:IntKind}
  (hX:AF.ev ⟨t,ds⟩ X=.osl id off n cap sz) {ti ei:TI} (ht:aJ τ ty=some ti) (hk:ti.k=.slice e) (he:aJ τ e=some ei) (hM:M.get id=some (.cells l)) (hL:AF.ev ⟨t,ds⟩ L=.int k1 (lo:Int)) (hH:AF.ev ⟨t,ds⟩ H=.int k2 (hh:Int)) (hZ:AF.ev ⟨t,ds⟩ Z=.int k3 (m:Int)) (h0:lo≤hh) (h1:hh≤m) (h2:m≤cap)
  (h:DW P ops cls Q ds ls ((d,.top)::t) M):DW P ops cls Q ds (i::ls) t M:=
 jY hi hw hd hc (by rw[ho];exact WE hτ ht hk he hX hM hL hH hZ h0 h1 h2) h
theorem OV (hτ:TabOK P τ) {d:Nat} (hi:ops[i]? =some o) (hw:aT ops ⟨t,ds⟩ o=some true) (hd:o.dst=some d) (hc:pG (cls i)=true) {x:Operand} {ts e:TypeId} (ho:o.op=.call {callee:=.builtin .cap,args:=#[x],argTypes:=#[ts]})
  {id off n cap sz:Nat} {l:List AV} (hx:AF.ev ⟨t,ds⟩ x=.osl id off n cap sz) (hM:M.get id=some (.cells l)) {ti:TI} (ht:aJ τ ts=some ti) (hk:ti.k=.slice e) (h:DW P ops cls Q ds ls ((d,.int .i64 cap)::t) M):DW P ops cls Q ds (i::ls) t M:=
 jY hi hw hd hc (by rw[ho];exact U7 hτ ht hk hx hM) h
theorem nT (hτ:TabOK P τ) {d:Nat} (hi:ops[i]? =some o) (hw:aT ops ⟨t,ds⟩ o=some true) (hd:o.dst=some d) (hc:n7 (cls i)=true) {x y:Operand} {td ts e:TypeId} (ho:o.op=.call {callee:=.builtin .copy,args:=#[x,y],argTypes:=#[td,ts]})
  {id off n cap sz m k:Nat} {l cs:List AV} (hx:AF.ev ⟨t,ds⟩ x=.osl id off n cap sz) {ti ei:TI} (ht:aJ τ td=some ti) (hk:ti.k=.slice e) (he:aJ τ e=some ei) (hsz:sz=ei.size) (hM:M.get id=some (.cells l)) (hl:off+n*sz≤l.length) (hy:MN M sz (AF.ev ⟨t,ds⟩ y) m cs) (hkm:Nat.min m n=k) {cs':List AV} (e1:cs.take (k*sz)=cs')
  (h:DW P ops cls Q ds ls ((d,.int .i64 k)::t) (M.set id (.cells (b9 l off cs')))):DW P ops cls Q ds (i::ls) t M:=by
 subst e1
 exact lE hi hw hd hc (by rw[ho];exact Z0 hτ ht hk he hsz hx hM hl hy hkm) h
theorem SM (hτ:TabOK P τ) (hi:ops[i]? =some o) (hw:aT ops ⟨t,ds⟩ o=some true) (hd:o.dst=none) (hc:n7 (cls i)=true) {x:Operand} {td e:TypeId} (ho:o.op=.call {callee:=.builtin .clear,args:=#[x],argTypes:=#[td]})
  {id off n cap sz:Nat} {l:List AV} (hx:AF.ev ⟨t,ds⟩ x=.osl id off n cap sz) {ti ei:TI} (ht:aJ τ td=some ti) (hk:ti.k=.slice e) (he:aJ τ e=some ei) (hsz:sz=ei.size) (hM:M.get id=some (.cells l)) (hl:off+n*sz≤l.length) (hn:0 < n) (hp:0 < sz)
  (h:DW P ops cls Q ds ls t (M.set id (.cells (b9 l off (List.replicate (n*sz) .top))))):DW P ops cls Q ds (i::ls) t M:=
 EM hi hw hd hc (by rw[ho];exact QI hτ ht hk he hsz hx hM hl hn hp) h
theorem UL (hτ:TabOK P τ) {d:Nat} (hi:ops[i]? =some o) (hw:aT ops ⟨t,ds⟩ o=some true) (hd:o.dst=some d) (hc:n7 (cls i)=true) {x y:Operand} {td tx e e':TypeId} (ho:o.op=.call {callee:=.builtin .append,args:=#[x,y],argTypes:=#[td,tx]})
  {id off n cap sz m:Nat} {l cs:List AV} (hx:AF.ev ⟨t,ds⟩ x=.osl id off n cap sz) {ti ei xi:TI} (ht:aJ τ td=some ti) (hk:ti.k=.slice e) (he:aJ τ e=some ei) (hxt:aJ τ tx=some xi) (hxk:xi.k=.slice e') (hsz:sz=ei.size) (hM:M.get id=some (.cells l)) (hl:off+(n+m)*sz≤l.length) (hy:MN M sz (AF.ev ⟨t,ds⟩ y) m cs) (hroom:n+m≤cap) {n' p:Nat} (e1:n+m=n') (e2:off+n*sz=p)
  (h:DW P ops cls Q ds ls ((d,.osl id off n' cap sz)::t) (M.set id (.cells (b9 l p cs)))):DW P ops cls Q ds (i::ls) t M:=by
 subst e1 e2
 exact lE hi hw hd hc (by rw[ho];exact JB hτ ht hk he hxt hxk hsz hx hM hl hy hroom) h
theorem WG (hτ:TabOK P τ) {d:Nat} (hi:ops[i]? =some o) (hw:aT ops ⟨t,ds⟩ o=some true) (hd:o.dst=some d) (hc:n7 (cls i)=true) {ty tx e:TypeId} {s x:Operand} (ho:o.op=.call {callee:=.builtin .append,args:=#[s,x],argTypes:=#[ty,tx]})
  {id a cap sz n:Nat} {l:List AV} (hS:AF.ev ⟨t,ds⟩ s=.osl id 0 a cap sz) {ti ei xi:TI} (ht:aJ τ ty=some ti) (hk:ti.k=.slice e) (he:aJ τ e=some ei) (hp:decide (0 < ei.size)=true) (hxi:aJ τ tx=some xi) (hxk:xi.k=.int .i64) (hsz:sz=ei.size) (hX:AF.ev ⟨t,ds⟩ x=.int .i64 (n:Int)) (hM:M.get id=some (.cells l)) (hl:l.length=cap*sz) (hac:a≤cap) (h0:0 < n) (hg:cap < a+n)
  (hb:(a+n)*ei.bytes≤140737488355328) (hlen:a+n≤140737488355328)
  (h:∀(cap':Nat) (l':List AV),a+n≤cap'→l'.length=cap'*sz→l'.take (a*sz)=l.take (a*sz)→DW P ops cls Q ds ls ((d,.osl M.next 0 (a+n) cap' sz)::t) (M.push (.cells l'))):DW P ops cls Q ds (i::ls) t M:=by
 refine eN hi hw ?_
 refine SC.of_G hc (by intro c hc;rw[ho] at hc;cases hc) ?_
 ·refine jD.mono (wG hτ ⟨ht,hk,he,of_decide_eq_true hp⟩ hxi hxk ho hsz hS hM hl hac hX h0 hg hb hlen) ?_
  rintro u M' ⟨cap',l',h1,h2,h3,rfl,rfl⟩
  have:=h cap' l' h1 h2 h3
  simpa [AF.put,hd] using this
end
end Go.Ab
namespace Go.Proofs.YteliblifgdofgaaGreatDoor
open Go.Ab Go.Shelf Go.RowKit Go.Lib Go.Sort
def wE:List Pn→Pn→List Pn
 |[],p=>[p]
 |x::r,p=>if x.session < p.session then x::wE r p else p::x::r
def rR (l:List Pn) (p:Pn):List Pn×Int:=if (lU l&&fV p)=true then (if l.any (fD p.session)=true then ([],170) else if 50≤l.length then ([],2) else (wE l p,0)) else ([],1)
def iH (l:List Pn) (s:Int):List Pn×Int:=if lU l=true then (if l.any (fD s)=true then (l.filter (fun x=>!fD s x),0) else ([],80)) else ([],1)
def ZT (z:List Pn×Int):AV:=.tup [cD z.1 .none,.int .i64 z.2]
theorem y6 (z:List Pn×Int):aN (ZT z):=aS (aV (cV _ (.inl rfl)) aB)
theorem mB {α:Type} {q:α→Bool} {k:α→Int}:∀{l:List α} {p:Option Int},jE q k p l=true→(∀n,p=some n→∀x,x∈l→n < k x)∧l.Pairwise fun a b=>k a < k b
 |[],p,_=>⟨fun _ _ x hx=>(by cases hx),List.Pairwise.nil⟩
 |x::r,p,h=>by
  have h2:jE q k (some (k x)) r=true∧∀n,p=some n→n < k x:=by
   cases p with
   |none=>
    simp[jE] at h
    exact⟨h.2,by intro n hn;cases hn⟩
   |some n=>
    simp[jE] at h
    exact⟨h.2,by intro m hm;cases hm;exact h.1.2⟩
  obtain⟨h3,h4⟩:=mB h2.1
  have h5:=h3 _ rfl
  refine⟨fun n hn y hy=>?_,List.Pairwise.cons h5 h4⟩
  have:=h2.2 n hn
  rcases List.mem_cons.1 hy with rfl|hy
  ·exact this
  ·exact Int.lt_trans this (h5 y hy)
theorem NW {α:Type} {k:α→Int}:∀{a b:List α},a.Perm b→(a.Pairwise fun x y=>k x < k y)→(b.Pairwise fun x y=>k x≤k y)→a=b
 |[],b,h,_,_=>(List.nil_perm.1 h).symm
 |x::r,[],h,_,_=>absurd h.length_eq (by simp)
 |x::r,y::s,h,ha,hb=>by
  rw[List.pairwise_cons] at ha hb
  have hx:x∈y::s:=h.subset (by simp)
  have hy:y∈x::r:=h.symm.subset (by simp)
  have e:x=y:=by
   rcases List.mem_cons.1 hx with e|hx
   ·exact e
   ·rcases List.mem_cons.1 hy with e|hy
    ·exact e.symm
    ·have:=ha.1 y hy
     have:=hb.1 x hx
     omega
  subst e
  rw[NW (List.Perm.cons_inv h) ha.2 hb.2]
theorem lS:∀(l:List Pn) (p:Pn),(wE l p).Perm (l++[p])
 |[],p=>List.Perm.refl _
 |x::r,p=>by
  show (if x.session < p.session then _ else _:List Pn).Perm _
  split
  ·exact (lS r p).cons x
  ·have:(p::x::r).Perm ((x::r)++[p]):=(List.perm_append_comm (l₁:=[p]) (l₂:=x::r))
   exact this
theorem EK:∀{l:List Pn} {p:Pn},(l.Pairwise fun a b=>a.session < b.session)→(∀x,x∈l→x.session≠p.session)→(wE l p).Pairwise fun a b=>a.session < b.session
 |[],p,_,_=>by simp[wE]
 |x::r,p,h,hn=>by
  rw[List.pairwise_cons] at h
  show (if x.session < p.session then _ else _:List Pn).Pairwise _
  have hx:=hn x (by simp)
  split
  ·next g=>
   refine List.Pairwise.cons (fun y hy=>?_) (EK h.2 fun y hy=>hn y (by simp[hy]))
   have:=(lS r p).subset hy
   rcases List.mem_append.1 this with hy|hy
   ·exact h.1 y hy
   ·simp at hy
    rw[hy]
    exact g
  ·next g=>
   have g2:p.session < x.session:=by omega
   refine List.Pairwise.cons (fun y hy=>?_) (List.Pairwise.cons h.1 h.2)
   rcases List.mem_cons.1 hy with rfl|hy
   ·exact g2
   ·exact Int.lt_trans g2 (h.1 y hy)
end Go.Proofs.YteliblifgdofgaaGreatDoor
namespace Go.Proofs.YteliblifgdofgaaGreatDoor
open Go.Ab
def iJ (c:Int) (p:Sn):Bool:=decide (p.client=c)
def iC (c:Int) (p:Sn):Bool:=decide (p.client < c)
def sn0:Sn:=⟨0,0,0,0⟩
def s7 (l:List Sn) (c:Int):Sn:=(l.find? (iJ c)).getD sn0
def pR (l:List Sn) (c:Int):Int:=(s7 l c).seq
def gG (x:Int×Int):AV:=.agg [.int .i64 x.1,.int .i64 x.2]
def kM (l:List Sn) (c n:Int):(Int×Int)×Int:=if pR l c < n then ((0,0),0) else if n=pR l c then (((s7 l c).code,(s7 l c).n),1) else ((0,0),2)
def P8 (z:(Int×Int)×Int):AV:=.tup [gG z.1,.int .i64 z.2]
theorem YM (p:Sn) (c:Int):aO Tryz.prog 124 [p.av,.int .i64 c] (.bool (iJ c p)):=by
 intro M
 refine aC aF Tryz.func124 rfl (by decide) (by simp[Tryz.f124]) ?_
 unfold iJ
 repeat' (first|refine zA rfl ?_|refine aA ?_|refine aL rfl ?_)
 exact⟨rfl,_,rfl,rfl,rfl⟩
theorem RR (p:Sn) (c:Int):aO Tryz.prog 219 [p.av,.int .i64 c] (.bool (iC c p)):=by
 intro M
 refine aC aF Tryz.func219 rfl (by decide) (by simp[Tryz.f219]) ?_
 unfold iC
 repeat' (first|refine zA rfl ?_|refine aA ?_|refine aL rfl ?_)
 exact⟨rfl,_,rfl,rfl,rfl⟩
theorem KU (p:Sn) (c:Int):aO Tryz.prog 218 [p.av,.int .i64 c] (.bool (!iC c p)):=by
 intro M
 refine aC aF Tryz.func218 rfl (by decide) (by simp[Tryz.f218]) ?_
 have k:=RR p c
 repeat' (first|refine zA rfl ?_|refine aA ?_|refine aL rfl ?_|refine aH rfl k ?_)
 exact⟨rfl,_,rfl,rfl,rfl⟩
theorem I3 {α:Type} (l:List α) (p:α→Bool):l.findIdx p≤l.length:=List.findIdx_le_length
theorem wC {α:Type} {l:List α} {p:α→Bool} {i:Nat} {x:α} (hn:∀(j:Nat) y,j < i→l[j]? =some y→p y=false) (hx:l[i]? =some x) (hp:p x=true):l.findIdx p=i:=by
 obtain⟨hi,rfl⟩:=List.getElem?_eq_some_iff.1 hx
 rw[List.findIdx_eq hi]
 exact⟨hp,fun j hj=>hn j _ hj (List.getElem?_eq_getElem (by omega))⟩
theorem BB {α:Type} {l:List α} {p:α→Bool} (hn:∀(j:Nat) y,j < l.length→l[j]? =some y→p y=false):l.findIdx p=l.length:=by
 rw[List.findIdx_eq_length]
 intro x hx
 obtain⟨j,hj⟩:=List.mem_iff_getElem?.1 hx
 exact hn j x (List.getElem?_eq_some_iff.1 hj).1 hj
theorem uF (l:List Sn) (tg:eE) (hl:l.length < 1000000) (c:Int) (g:FuncId) (p:Sn→Bool) (hp:∀x,aO Tryz.prog g [x.av,.int .i64 c] (.bool (p x))):aO Tryz.prog 123 [cU l tg,.int .i64 c,.fn (.func g) [] []] (.int .i64 (l.findIdx p:Int)):=by
 intro M
 refine aC aF Tryz.func123 rfl (by decide) (by simp[Tryz.f123]) ?_
 have la:=bA Sn.av l
 unfold cU
 repeat' (first|refine zA rfl ?_|refine aA ?_|refine aL rfl ?_)
 refine bC l.length (fun i f N=>N=M∧(∀(j:Nat) y,j < i→l[j]? =some y→p y=false)∧f=⟨[(0,.sl 4 (l.map Sn.av) tg),(1,.int .i64 c),(2,.fn (.func g) [] []),(7,.int .i64 (i:Int))],[]⟩) (Nat.zero_le _) ⟨rfl,(fun j y hj=>absurd hj (Nat.not_lt_zero _)),rfl⟩ (aR.le ?_ (aG.le_refl _)) ?_
 ·skip
  repeat (refine AF.le_cons rfl ?_)
  exact AF.le_nil rfl
 rintro i f N hi ⟨rfl,hno,rfl⟩
 by_cases g1:i < l.length
 ·have d1:decide ((i:Int) < (l.length:Int))=true:=decide_eq_true (by omega)
  have hx:l[i]? =some l[i]:=List.getElem?_eq_getElem g1
  have fi:=aZ (i:=i) (by omega)
  generalize l[i]=x at hx
  have hk:=hp x
  cases hpx:p x
  ·rw[hpx] at hk
   repeat' (first|refine zB rfl d1 ?_|refine zI rfl (by first|exact fi|exact la) ?_|refine zA rfl ?_|refine aA ?_|refine aL rfl ?_|refine aH rfl hk ?_|refine zX rfl (fB hx) ?_)
   refine⟨g1,_,_,⟨rfl,?_,rfl⟩,aR.le ?_ (aG.le_refl _)⟩
   ·intro j y hj hy
    by_cases hji:j=i
    ·subst hji
     rw[hx] at hy
     cases hy
     exact hpx
    ·exact hno j y (by omega) hy
   ·skip
    repeat (refine AF.le_cons rfl ?_)
    exact AF.le_nil rfl
  ·rw[hpx] at hk
   rw[wC hno hx hpx]
   repeat' (first|refine zB rfl d1 ?_|refine zI rfl (by first|exact fi|exact la) ?_|refine zA rfl ?_|refine aA ?_|refine aL rfl ?_|refine aH rfl hk ?_|refine zX rfl (fB hx) ?_)
   exact⟨rfl,_,rfl,rfl,rfl⟩
 ·have d1:decide ((i:Int) < (l.length:Int))=false:=decide_eq_false (by omega)
  obtain rfl:i=l.length:=by omega
  rw[BB hno]
  repeat' (first|refine zB rfl d1 ?_|refine zI rfl la ?_|refine zA rfl ?_|refine aA ?_|refine aL rfl ?_)
  exact⟨rfl,_,rfl,rfl,rfl⟩
def dfA (l:List Sn) (c:Int):AV:=.tup [(s7 l c).av,.bool (l.any (iJ c))]
theorem MV (l:List Sn) (c:Int):aN (dfA l c):=aS (aV (lR _) aK)
theorem yA {α:Type} (l:List α) (p:α→Bool):(l.any p=false∧l.findIdx p=l.length∧l.find? p=none)∨∃(i:Nat) (x:α),i < l.length∧l[i]? =some x∧p x=true∧(∀(j:Nat) y,j < i→l[j]? =some y→p y=false)∧l.findIdx p=i∧l.find? p=some x∧l.any p=true:=by
 rcases oY l p with ⟨h1,_,h2⟩|⟨i,x,h1,h2,h3,_,h4,h5⟩
 ·refine .inl ⟨h1,?_,h2⟩
  rw[List.findIdx_eq_length]
  intro x hx
  rw[List.any_eq_false] at h1
  simpa using h1 x hx
 ·exact .inr ⟨i,x,(List.getElem?_eq_some_iff.1 h1).1,h1,h2,h3,wC h3 h1 h2,h4,h5⟩
theorem AA (l:List Sn) (tg:eE) (htg:tg=.none∨tg=.full) (hl:l.length < 1000000) (c:Int):aO Tryz.prog 77 [cU l tg,.int .i64 c] (dfA l c):=by
 refine aU (aV (cT l htg) aB) (MV l c) ?_
 refine aC aF Tryz.func77 rfl (by decide) (by simp[Tryz.f77]) ?_
 have la:=bA Sn.av l
 have k:=uF l tg hl c 124 (iJ c) (fun x=>YM x c)
 unfold dfA s7
 unfold cU at*
 rcases yA l (iJ c) with ⟨e1,e2,e3⟩|⟨i,x,hi,hx,_,_,e2,e3,e1⟩
 ·rw[e2] at k
  rw[e1,e3]
  have d1:decide ((l.length:Int)=(l.length:Int))=true:=by simp
  repeat' (first|refine zB rfl d1 ?_|refine zI rfl la ?_|refine zA rfl ?_|refine aA ?_|refine aL rfl ?_|refine aH rfl k ?_)
  exact⟨rfl,_,rfl,_,rfl,aI.of_closed (aS (aV (lR sn0) aK))⟩
 ·rw[e2] at k
  rw[e1,e3]
  have d1:decide ((i:Int)=(l.length:Int))=false:=decide_eq_false (by omega)
  repeat' (first|refine zB rfl d1 ?_|refine zI rfl la ?_|refine zA rfl ?_|refine aA ?_|refine aL rfl ?_|refine aH rfl k ?_|refine zX rfl (fB hx) ?_)
  exact⟨rfl,_,rfl,_,rfl,aI.of_closed (aS (aV (lR x) aK))⟩
theorem ZF (l:List Sn) (tg:eE) (htg:tg=.none∨tg=.full) (hl:l.length < 1000000) (c:Int):aO Tryz.prog 217 [cU l tg,.int .i64 c] (.int .i64 (pR l c)):=by
 refine aU (aV (cT l htg) aB) (aB) ?_
 refine aC aF Tryz.func217 rfl (by decide) (by simp[Tryz.f217]) ?_
 have k:=AA l tg htg hl c
 unfold pR
 unfold dfA at k
 unfold cU at*
 generalize s7 l c=z at*
 repeat' (first|refine zA rfl ?_|refine aA ?_|refine aL rfl ?_|refine aH rfl k ?_)
 exact⟨rfl,_,rfl,_,rfl,aI.of_closed aB⟩
theorem jP (z:(Int×Int)×Int):aN (P8 z):=aS (aV (bU (aV aB aB)) aB)
theorem IK (l:List Sn) (tg:eE) (htg:tg=.none∨tg=.full) (hl:l.length < 1000000) (c n:Int):aO Tryz.prog 34 [cU l tg,.int .i64 c,.int .i64 n] (P8 (kM l c n)):=by
 refine aU (bK (cT l htg) aB aB) (jP _) ?_
 refine aC aF Tryz.func34 rfl (by decide) (by simp[Tryz.f34]) ?_
 have k:=AA l tg htg hl c
 unfold kM pR
 unfold dfA at k
 unfold cU at*
 generalize s7 l c=z at*
 by_cases h1:z.seq < n
 ·have d1:decide (n > z.seq)=true:=decide_eq_true h1
  rw[if_pos h1]
  repeat' (first|refine zB rfl d1 ?_|refine zA rfl ?_|refine aA ?_|refine aL rfl ?_|refine aH rfl k ?_)
  exact⟨rfl,_,rfl,_,rfl,aI.of_closed (jP ((0,0),0))⟩
 ·have d1:decide (n > z.seq)=false:=decide_eq_false h1
  rw[if_neg h1]
  by_cases h2:n=z.seq
  ·have d2:decide (n=z.seq)=true:=decide_eq_true h2
   rw[if_pos h2]
   repeat' (first|refine zB rfl (by first|exact d1|exact d2) ?_|refine zA rfl ?_|refine aA ?_|refine aL rfl ?_|refine aH rfl k ?_)
   exact⟨rfl,_,rfl,_,rfl,aI.of_closed (jP ((z.code,z.n),1))⟩
  ·have d2:decide (n=z.seq)=false:=decide_eq_false h2
   rw[if_neg h2]
   repeat' (first|refine zB rfl (by first|exact d1|exact d2) ?_|refine zA rfl ?_|refine aA ?_|refine aL rfl ?_|refine aH rfl k ?_)
   exact⟨rfl,_,rfl,_,rfl,aI.of_closed (jP ((0,0),2))⟩
def l9:List Sn→Sn→List Sn
 |[],s=>[s]
 |y::r,s=>if y.client < s.client then y::l9 r s else if y.client=s.client then s::r else s::y::r
theorem EF:∀{l:List Sn} {s:Sn} {i k:Nat},i≤l.length→(∀(j:Nat) d,j < i→l[j]? =some d→d.client < s.client)→(k=i+1∧(∃d,l[i]? =some d∧d.client=s.client)∨k=i∧∀d,l[i]? =some d→¬d.client < s.client∧d.client≠s.client)→l9 l s=l.take i++s::l.drop k
 |[],s,i,k,hi,_,h=>by
  obtain rfl:i=0:=by simpa using hi
  rcases h with ⟨_,d,hd,_⟩|⟨rfl,_⟩
  ·simp at hd
  ·rfl
 |y::r,s,0,k,_,_,h=>by
  show (if y.client < s.client then _ else if y.client=s.client then _ else _)=_
  rcases h with ⟨rfl,d,hd,he⟩|⟨rfl,h⟩
  ·cases hd
   rw[if_neg (by omega),if_pos he]
   rfl
  ·obtain⟨h1,h2⟩:=h y rfl
   rw[if_neg h1,if_neg h2]
   rfl
 |y::r,s,i+1,k,hi,h1,h=>by
  have h3:∃k',k=k'+1∧(k'=i+1∧(∃d,r[i]? =some d∧d.client=s.client)∨k'=i∧∀d,r[i]? =some d→¬d.client < s.client∧d.client≠s.client):=by
   rcases h with ⟨rfl,d,hd,he⟩|⟨rfl,h⟩
   ·exact⟨i+1,rfl,.inl ⟨rfl,d,by simpa using hd,he⟩⟩
   ·exact⟨i,rfl,.inr ⟨rfl,fun d hd=>h d (by simpa using hd)⟩⟩
  obtain⟨k',rfl,h3⟩:=h3
  show (if y.client < s.client then _ else _)=_
  rw[if_pos (h1 0 y (Nat.zero_lt_succ _) rfl),EF (i:=i) (Nat.le_of_succ_le_succ hi) (fun j d hj hd=>h1 (j+1) d (Nat.succ_lt_succ hj) (by simpa using hd)) h3]
  rfl
def pI (l:List Sn) (s:Sn):List Sn×Int:=if (mN l&&iF s)=true then (if s.seq≤pR l s.client then ([],180) else if l.any (iJ s.client)=false∧50≤l.length then ([],2) else (l9 l s,0)) else ([],1)
def saA (z:List Sn×Int):AV:=.tup [cU z.1 .none,.int .i64 z.2]
theorem MT (z:List Sn×Int):aN (saA z):=aS (aV (cT _ (.inl rfl)) aB)
def xZ (s:Sg) (o:Oo):Sg×(Int×Int):=if o.at_ < s.mark then (s,(180,0)) else if s.last < o.at_ then (s,(181,0)) else if (rR s.pins ⟨o.session,o.at_⟩).2=0 then ({s with pins:=(rR s.pins ⟨o.session,o.at_⟩).1},(0,o.at_)) else (s,((rR s.pins ⟨o.session,o.at_⟩).2,0))
def xG (s:Sg) (o:Oo):Sg×(Int×Int):=if (iH s.pins o.session).2=0 then ({s with pins:=(iH s.pins o.session).1},(0,T7 s.pins o.session)) else (s,((iH s.pins o.session).2,0))
def fl (l:List Pr):List AV:=b8 (l.map Pr.av)
theorem tY (l:List Pr):∀x,x∈l.map Pr.av→x.cells.length=3:=by
 intro x hx
 obtain⟨a,_,rfl⟩:=List.mem_map.1 hx
 rfl
theorem tM (l:List Pr):(fl l).length=l.length*3:=by
 unfold fl
 rw[bZ (tY l)]
 simp
theorem a6j (a b:List Pr):fl (a++b)=fl a++fl b:=by simp[fl,b8]
theorem CQ (l:List Pr):∀x,x∈fl l→aN x:=by
 intro x hx
 unfold fl b8 at hx
 obtain⟨y,hy,hx⟩:=List.mem_flatMap.1 hx
 obtain⟨a,_,rfl⟩:=List.mem_map.1 hy
 have:x∈[AV.str a.key.path,.int .i64 a.key.time,.str a.val]:=hx
 exact bK aP aB aP x this
theorem u7 (rows:List (List Pr×Bool)) (i:Nat):(d7 (rows.take i)).length≤(d7 rows).length:=by
 unfold d7
 have:rows=rows.take i++rows.drop i:=(List.take_append_drop i rows).symm
 conv=>rhs;rw[this]
 rw[List.map_append,List.flatten_append,List.length_append]
 omega
def PE (rows:List (List Pr×Bool)) (b:Bool) (i:Nat) (x:AV):List (Nat×AV):=[(6,x),(25,.sl 1 (rows.map qS) (GA b)),(26,.int .i64 (rows.length:Int)),(27,.int .i64 (i:Int))]
theorem XK {k id:Nat} {rows:List (List Pr×Bool)} {b:Bool} {i:Nat} {x:AV} {f:AF} (h6:gJ k id (f.get 6) x) (h25:f.get 25=.sl 1 (rows.map qS) (GA b)) (h26:f.get 26=.int .i64 (rows.length:Int)) (h27:f.get 27=.int .i64 (i:Int)):IZ k id f (PE rows b i x):=by
 refine⟨h6,?_,?_,?_,trivial⟩
 ·rw[h25];exact gJ.of_closed (oE rows b)
 ·rw[h26];exact gJ.of_closed aB
 ·rw[h27];exact gJ.of_closed aB
theorem DB {A B:List Pr} {cap':Nat} {cells l':List AV} (hc:cells.take (A.length*3)=fl A) (g1:A.length+(B.map Pr.av).length≤cap') (g2:l'.length=cap'*3)
  (g3:l'.take ((A.length+(B.map Pr.av).length)*3)=cells.take (A.length*3)++b8 (B.map Pr.av)):
  l'.take (fl (A++B)).length=fl (A++B)∧l'.length=cap'*3∧(fl (A++B)).length≤cap'*3:=by
 rw[List.length_map] at g1 g3
 rw[hc] at g3
 refine⟨?_,g2,?_⟩
 ·rw[tM,List.length_append,a6j]
  exact g3
 ·rw[tM,List.length_append]
  omega
theorem WD (n:Nat) (h0:0 < n) (h1:n < 1000000) (M:aG):aQ Tryz.prog 392 [.sl 0 [] .full,.int .i64 (n:Int)] M (fun e M'=>∃(cap:Nat) (l':List AV),n≤cap∧l'.length=cap*3∧e=.ret (.osl M.next 0 0 cap 3)∧M'=M.push (.cells l')):=by
 refine aC aF Tryz.func392 rfl (by decide) (by simp[Tryz.f392]) ?_
 have d1:decide ((n:Int) < 0)=false:=by simp
 have w0:IntKind.wrap .i64 ((n:Int) - 0)=(n:Int):=(Go.Ab.wrap_small (by omega) (by omega)).trans (by omega)
 have d2:decide ((0:Int) < (n:Int))=true:=by simp;omega
 repeat' (first|refine zB rfl d1 ?_|refine zA rfl ?_|refine aA ?_|refine aL rfl ?_)
 refine E9 aF rfl rfl rfl rfl rfl rfl rfl ?_
 repeat' (first|refine zB rfl d2 ?_|refine zI rfl w0 ?_|refine zA rfl ?_|refine aA ?_|refine aL rfl ?_)
 refine E9 aF rfl rfl rfl rfl rfl rfl rfl ?_
 skip
 refine AM aF rfl rfl rfl rfl rfl rfl rfl rfl rfl ?_
 repeat' (first|refine zA rfl ?_)
 refine P5 aF rfl rfl rfl rfl rfl (n:=n) rfl rfl rfl rfl rfl rfl rfl rfl h0 (by simp;omega) (by omega) ?_
 intro cap' l' g1 g2
 repeat' (first|refine zA rfl ?_)
 refine BS aF rfl rfl rfl rfl rfl (l:=l') rfl (by rw[aG.get_push,if_pos rfl]) rfl rfl rfl rfl (by omega) (by simp) g1 ?_
 repeat' (first|refine zA rfl ?_|refine aA ?_|refine aL rfl ?_)
 exact⟨rfl,_,rfl,cap',l',g1,g2,rfl,rfl⟩
theorem LG (rows:List (List Pr×Bool)) (b:Bool) (hr:rows.length < 1000) (h0:0 < (d7 rows).length) (h1:(d7 rows).length < 100000):aO Tryz.prog 390 [.sl 1 (rows.map qS) (GA b)] (.sl 3 ((d7 rows).map Pr.av) .none):=by
 refine aU (aX (oE rows b)) (bW _) ?_
 refine aC aF Tryz.func390 rfl (by decide) (by simp[Tryz.f390]) ?_
 have la:((rows.map qS).length:Int)=(rows.length:Int):=by simp
 repeat' (first|refine zI rfl la ?_|refine zA rfl ?_|refine aA ?_|refine aL rfl ?_)
 refine bC rows.length (fun i f N=>N=⟨0,[]⟩∧f=⟨[(0,.sl 1 (rows.map qS) (GA b)),(3,.int .i64 ((d7 (rows.take i)).length:Int)),(9,.sl 1 (rows.map qS) (GA b)),(10,.int .i64 (rows.length:Int)),(11,.int .i64 (i:Int))],[]⟩) (Nat.zero_le _) ⟨rfl,rfl⟩ (aR.le ?_ (aG.le_refl _)) ?_
 ·skip
  repeat (refine AF.le_cons rfl ?_)
  exact AF.le_nil rfl
 ·rintro i f N hi ⟨rfl,rfl⟩
  by_cases hi1:i < rows.length
  ·have d1:decide ((i:Int) < (rows.length:Int))=true:=by simp;omega
   have hx:rows[i]? =some rows[i]:=List.getElem?_eq_getElem hi1
   have fi:=aZ (i:=i) (by omega)
   have hs:=rE hx
   have hle:=u7 rows (i+1)
   generalize rows[i]=r at hx hs
   rw[hs,List.length_append] at hle
   have lr:((r.1.map Pr.av).length:Int)=(r.1.length:Int):=by simp
   have w1:IntKind.wrap .i64 (((d7 (rows.take i)).length:Int)+(r.1.length:Int))=((d7 (rows.take (i+1))).length:Int):=by
    rw[hs,List.length_append]
    exact (Go.Ab.wrap_small (by omega) (by omega)).trans (by omega)
   have d2:decide (((d7 (rows.take (i+1))).length:Int) < 0)=false:=by simp
   repeat' (first|refine zB rfl d1 ?_|refine aA ?_|refine aL rfl ?_)
   refine zX rfl (fB hx) ?_
   repeat' (first|refine zB rfl d2 ?_|refine zI rfl (by first|exact fi|exact lr|exact w1) ?_|refine zA rfl ?_|refine aA ?_|refine aL rfl ?_)
   refine⟨hi1,_,_,⟨rfl,rfl⟩,aR.le ?_ (aG.le_refl _)⟩
   repeat (refine AF.le_cons rfl ?_)
   exact AF.le_nil rfl
  ·have d1:decide ((i:Int) < (rows.length:Int))=false:=by simp;omega
   obtain rfl:i=rows.length:=by omega
   rw[List.take_length]
   repeat' (first|refine zB rfl d1 ?_|refine zA rfl ?_|refine aA ?_|refine aL rfl ?_)
   refine FO rfl rfl rfl rfl rfl rfl (WD (d7 rows).length h0 (by omega) ⟨0,[]⟩) ?_ (fun u M' ⟨_,_,_,_,e,_⟩=>by cases e)
   rintro u M' ⟨cap,l',g1,g2,g3,rfl⟩
   cases g3
   repeat' (first|refine zI rfl la ?_|refine zA rfl ?_|refine aA ?_|refine aL rfl ?_)
   refine bC rows.length (fun i f N=>∃(cap:Nat) (cells:List AV) (id:Nat),id≤1∧(d7 (rows.take i)).length≤cap∧cells.take ((d7 (rows.take i)).length*3)=fl (d7 (rows.take i))∧cells.length=cap*3∧N=⟨id+1,[(id,.cells cells)]⟩∧f=⟨PE rows b i (.osl id 0 (d7 (rows.take i)).length cap 3),[]⟩) (Nat.zero_le _) ⟨cap,l',0,Nat.zero_le 1,Nat.zero_le _,rfl,g2,rfl,rfl⟩ (aR.le ?_ (aG.le_refl _)) ?_
   ·unfold PE
    repeat (refine AF.le_cons rfl ?_)
    exact AF.le_nil rfl
   ·rintro i f N hi ⟨cap,cells,id,hid,hcap,hce,hcl,rfl,rfl⟩
    have hle0:=u7 rows i
    unfold PE
    by_cases hi1:i < rows.length
    ·have d1:decide ((i:Int) < (rows.length:Int))=true:=by simp;omega
     have hx:rows[i]? =some rows[i]:=List.getElem?_eq_getElem hi1
     have fi:=aZ (i:=i) (by omega)
     have hs:=rE hx
     have hle:=u7 rows (i+1)
     generalize rows[i]=r at hx hs
     rw[hs,List.length_append] at hle
     generalize d7 (rows.take i)=A at hs hle hle0 hce hcap
     have hl:(A++r.1).length=A.length+(r.1.map Pr.av).length:=by simp
     have hid2:id=0∨id=1:=by omega
     rcases hid2 with rfl|rfl
     ·repeat' (first|refine zB rfl d1 ?_|refine aA ?_|refine aL rfl ?_)
      refine zX rfl (fB hx) ?_
      repeat' (first|refine zA rfl ?_|refine aA ?_|refine aL rfl ?_)
      refine m0 aF rfl rfl rfl rfl rfl (l:=cells) rfl rfl rfl rfl rfl rfl rfl rfl rfl rfl (by omega) (by omega) (by simp;omega) (by simp;omega) ?_
      intro cap' l' g1 g2 g3
      repeat' (first|refine zI rfl (by first|exact la|exact fi) ?_|refine zA rfl ?_|refine aA ?_|refine aL rfl ?_)
      obtain⟨k1,k2,k3⟩:=DB hce g1 g2 g3
      have hg:=sB (k:=1) (id:=1) k1 k2 k3 (CQ _)
      refine⟨hi1,_,_,⟨cap',t6 (fl (A++r.1)) (cap'*3),1,Nat.le_refl 1,?_,?_,?_,rfl,rfl⟩,aR.move (k:=1) (id:=1) (Nat.le_refl 1) (Nat.le_refl 1) rfl hg.1 hg.2 trivial ?_ trivial⟩
      ·rw[hs];rw[tM] at k3;omega
      ·rw[hs];have:=p6 (fl (A++r.1)) (cap'*3);rw[tM] at this;exact this
      ·exact nP k3
      ·rw[hs,hl]
       exact XK gJ.osl rfl rfl rfl
     ·repeat' (first|refine zB rfl d1 ?_|refine aA ?_|refine aL rfl ?_)
      refine zX rfl (fB hx) ?_
      repeat' (first|refine zA rfl ?_|refine aA ?_|refine aL rfl ?_)
      refine m0 aF rfl rfl rfl rfl rfl (l:=cells) rfl rfl rfl rfl rfl rfl rfl rfl rfl rfl (by omega) (by omega) (by simp;omega) (by simp;omega) ?_
      intro cap' l' g1 g2 g3
      repeat' (first|refine zI rfl (by first|exact la|exact fi) ?_|refine zA rfl ?_|refine aA ?_|refine aL rfl ?_)
      obtain⟨k1,k2,k3⟩:=DB hce g1 g2 g3
      have hg:=sB (k:=1) (id:=2) k1 k2 k3 (CQ _)
      refine⟨hi1,_,_,⟨cap',t6 (fl (A++r.1)) (cap'*3),1,Nat.le_refl 1,?_,?_,?_,rfl,rfl⟩,aR.move (k:=1) (id:=2) (Nat.le_refl 1) (by omega) rfl hg.1 hg.2 trivial ?_ trivial⟩
      ·rw[hs];rw[tM] at k3;omega
      ·rw[hs];have:=p6 (fl (A++r.1)) (cap'*3);rw[tM] at this;exact this
      ·exact nP k3
      ·rw[hs,hl]
       exact XK gJ.osl rfl rfl rfl
    ·have d1:decide ((i:Int) < (rows.length:Int))=false:=by simp;omega
     obtain rfl:i=rows.length:=by omega
     rw[List.take_length] at hce hcap
     rw[List.take_length]
     have hid2:id=0∨id=1:=by omega
     rcases hid2 with rfl|rfl
     ·refine jR (aR.freezeS 6 (xs:=(d7 rows).map Pr.av) rfl rfl hce (by simp) (by omega) hcap (tY _)) ?_
      repeat' (first|refine zB rfl d1 ?_|refine zA rfl ?_|refine aA ?_|refine aL rfl ?_)
      exact⟨rfl,_,rfl,_,rfl,aI.of_closed (bW _)⟩
     ·refine jR (aR.freezeS 6 (xs:=(d7 rows).map Pr.av) rfl rfl hce (by simp) (by omega) hcap (tY _)) ?_
      repeat' (first|refine zB rfl d1 ?_|refine zA rfl ?_|refine aA ?_|refine aL rfl ?_)
      exact⟨rfl,_,rfl,_,rfl,aI.of_closed (bW _)⟩
end Go.Proofs.YteliblifgdofgaaGreatDoor
