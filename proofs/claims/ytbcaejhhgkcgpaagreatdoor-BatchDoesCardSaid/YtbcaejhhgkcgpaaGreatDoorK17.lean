/- Parts of the proof, one behind the other. No further condition. -/
import Derived.Test.YtbcaejhhgkcgpaaGreatDoorK16
import Derived.Shelf.SlSortCmp.NoneTotal
import Derived.Shelf.Small.Strs
import Derived.Test.YtbcaejhhgkcgpaaGreatDoorProg
import Derived.KernelRfl
set_option linter.unusedVariables false
set_option linter.unusedSimpArgs false
namespace Go.Ab
open Go.Shelf Go.RowKit Go.Proofs Go.Sort
theorem perm_of_extract {n:Nat} {d d':Array (Fin n)} (hs:d'.size=d.size) (h:(d'.extract 0 d.size).toList.Perm (d.extract 0 d.size).toList):d'.toList.Perm d.toList:=by
 have e1:d.extract 0 d.size=d:=by simp
 have e2:d'.extract 0 d.size=d':=by rw[←hs];simp
 rwa [e1,e2] at h
theorem sort_world {α:Type} [Inhabited α] (enc:α→List Value) (k:Nat) (w:World) (b m:Nat) (dk:Array α) (os:Array Obj) {c:Array Value} {ty:TypeId} (hb:w.heap[b]? =some (.cells c ty (0,0))):
  Wrote w b (w.putObj b (.cells (putCells id 0 (flatK enc k dk) c) ty (0,0)))∧Below w.heap.size (w.putObj b (.cells (putCells id 0 (flatK enc k dk) c) ty (0,0))) (sortWorldK enc k w b 0 m dk os):=by
 have hlt:b < w.heap.size:=(Array.getElem?_eq_some_iff.1 hb).1
 refine⟨wrote_put w b _,?_⟩
 have hh:(mapBlock (Sort.ahead w m) b (putCells id 0 (flatK enc k dk))).heap=(w.putObj b (.cells (putCells id 0 (flatK enc k dk) c) ty (0,0))).heap:=by
  apply Array.ext_getElem?
  intro j
  show (w.heap.modify b (onCells (putCells id 0 (flatK enc k dk))))[j]? =(w.heap.setIfInBounds b _)[j]?
  rw[Array.getElem?_modify]
  by_cases hj:b=j
  ·subst hj
   have hq:w.heap[b]=.cells c ty (0,0):=(Array.getElem?_eq_some_iff.1 hb).2
   simp[onCells,hlt,hq]
  ·simp[hj]
 refine⟨rfl,rfl,rfl,?_,?_⟩
 ·show _≤((mapBlock (Sort.ahead w m) b (putCells id 0 (flatK enc k dk))).heap++os).size
  rw[hh,Array.size_append]
  omega
 ·intro j hj
  show ((mapBlock (Sort.ahead w m) b (putCells id 0 (flatK enc k dk))).heap++os)[j]? =_
  rw[hh,Array.getElem?_append_left (by simpa using hj)]
def CmpOf {κ:Type} (P:Program) (g:FuncId) (cf:κ→κ→Int) (key:AV→κ) (xs:List AV):Prop:=
 ∀(μ:Mu) (F:Frm) (w:World) (x y:AV) (c1 c2:Array Value),x∈xs→y∈xs→Rep μ F w x (.agg c1)→Rep μ F w y (.agg c2)→
  ∀W,Calls P g #[.agg c1,.agg c2] W fun e w'=>e=.returned (.int .i64 (cf (key x) (key y)))∧∃q os',w'=grow (W.drewN q) os'
theorem sortFunc_ok {P:Program} {ρ:Ren} (L:SlLaysF0.n6 P ρ) (he:Enters P (ρ.f 6)) {k:Nat} (hk0:0 < k) (aE:∀w,(isAgg (ρ.t 24)).run P w=.ok true w) (zE:∀w,(Go.sizeOf (ρ.t 24)).run P w=.ok k w) {g:FuncId} (hge:Enters P g)
  {κ:Type} (cf:κ→κ→Int) (hO:SWO (ltOf cf)) (key:AV→κ) {M:Mem} {id cap:Nat} {l xs:List AV} (hcmp:CmpOf P g cf key xs) (hM:M.get id=some (.cells l)) (hx:l.take (xs.length*k)=flat xs) (hs:∀x,x∈xs→∃cs,x=.agg cs∧cs.length=k)
  (hne:xs≠[]) (hlen:xs.length*k≤l.length) (hsz:xs.length < 4611686018427387904):
  ACalls P (ρ.f 6) [.osl id 0 xs.length cap k,.fn (.func g) [] []] M fun e N=>e=.ret (.tup [])∧∃ys:List AV,ys.Perm xs∧(ys.Pairwise fun a b=>¬cf (key b) (key a) < 0)∧N=M.set id (.cells (flat ys++l.drop (xs.length*k))):=by
 refine⟨he,fun μ F w vs hg hvs=>?_⟩
 obtain⟨b,c,ty,e1,e2,e3,e4,e5⟩:=hg.obj id l hM
 have hpos:0 < xs.length:=List.length_pos_iff.2 hne
 have hcs:∀x,x∈xs→x.cells.length=k:=by
  intro x hx
  obtain⟨cs,rfl,h⟩:=hs x hx
  exact h
 obtain⟨hvl,hvr⟩:=hvs
 match vs,hvl with
 |⟨[v1,v2]⟩,_=>
  have r1:=hvr 0 _ v1 rfl rfl
  have r2:=hvr 1 _ v2 rfl rfl
  have hv1:v1=.slice (some ⟨b,0,none⟩) xs.length cap:=by
   cases r1 with
   |osl _ _ _ _ _ _ h1 h2 hv=>exact hv b e1
  obtain⟨c1,c2,hv2,hz1,hz2,_,_⟩:=r2.fn_inv
  have hc1:c1=#[]:=Array.eq_empty_of_size_eq_zero (by simpa using hz1)
  have hc2:c2=#[]:=Array.eq_empty_of_size_eq_zero (by simpa using hz2)
  subst hc1
  subst hc2
  subst hv1
  subst hv2
  generalize hn:xs.length=n at*
  haveI:Inhabited (Fin n):=⟨⟨0,hpos⟩⟩
  let enc:Fin n→List Value:=fun i=>(List.range k).map fun j=>c.getD (i.val*k+j) undef
  have henc:∀(i:Fin n) (j:Nat),j < k→(enc i)[j]? =some (c.getD (i.val*k+j) undef):=by
   intro i j hj
   simp[enc,hj]
  have hbnd:∀(i:Fin n) (j:Nat),j < k→i.val*k+j < c.size:=by
   intro i j hj
   have h1:(i.val+1)*k≤n*k:=Nat.mul_le_mul_right k i.isLt
   rw[Nat.add_mul,Nat.one_mul] at h1
   omega
  have hgetD:∀(p:Nat),p < c.size→c[p]? =some (c.getD p undef):=by
   intro p hp
   simp[Array.getD_eq_getD_getElem?,Array.getElem?_eq_getElem hp]
  have hk:∀x,(enc x).length=k:=fun x=>by simp[enc]
  have h1:∀x,∀v∈enc x,v.oneCell'=true:=by
   intro x v hv
   simp only[enc,List.mem_map,List.mem_range] at hv
   obtain⟨j,hj,rfl⟩:=hv
   exact e4 _ _ (hgetD _ (hbnd x j hj))
  have hel:∀(i:Fin n),∃x,xs[i.val]? =some x:=fun i=>⟨_,List.getElem?_eq_getElem (by omega)⟩
  have hrep:∀(i:Fin n) (x:AV),xs[i.val]? =some x→Rep μ F w x (.agg (enc i).toArray):=by
   intro i x hxi
   obtain⟨cs,rfl,hcl⟩:=hs x (List.mem_of_getElem? hxi)
   refine .agg cs _ (by simp[hk,hcl]) (fun j y u hy hu=>?_) (fun j u hu=>h1 i u (List.mem_of_getElem? (by simpa using hu)))
   have hj:j < k:=by rw[←hcl];exact (List.getElem?_eq_some_iff.1 hy).1
   have hu2:u=c.getD (i.val*k+j) undef:=by
    have:=henc i j hj
    rw[List.getElem?_toArray,this] at hu
    exact (Option.some.inj hu).symm
   subst hu2
   have hfl:(flat xs)[i.val*k+j]? =some y:=flat_get hcs hxi hy
   have hly:l[i.val*k+j]? =some y:=by
    rw[←hx] at hfl
    rw[List.getElem?_take] at hfl
    split at hfl
    ·exact hfl
    ·cases hfl
   exact e5 _ y _ hly (hgetD _ (hbnd i j hj))
  let keyI:Fin n→κ:=fun i=>key ((xs[i.val]?).getD .top)
  let cfI:Fin n→Fin n→Int:=fun i j=>cf (keyI i) (keyI j)
  have hOI:SWO (ltOf cfI):=⟨fun x=>hO.irrefl _,fun x y z=>hO.trans _ _ _,fun x y z=>hO.ntrans _ _ _⟩
  let d:Array (Fin n):=(List.finRange n).toArray
  have hds:d.size=n:=by simp[d]
  have hdi:∀t,t < n→(d[t]!).val=t:=by
   intro t ht
   have:d[t]! =(List.finRange n)[t]'(by simpa using ht):=by
    rw[getElem!_pos d t (by rw[hds];exact ht)]
    simp[d]
   rw[this]
   simp
  have hH:HoldsK enc k w b 0 d:=by
   intro j hj
   rw[size_flatK,hds] at hj
   have hjk:j/k < n:=Nat.div_lt_of_lt_mul (by rwa [Nat.mul_comm] at hj)
   have hjm:j%k < k:=Nat.mod_lt _ hk0
   have hidx:j/k*k+j%k=j:=by rw[Nat.mul_comm];exact Nat.div_add_mod j k
   rw[get_flatK enc k d j (by rw[hds];exact hj)]
   have hv:(enc d[j/k]!)[j%k]! =c.getD j undef:=by
    have:=henc (d[j/k]!) (j%k) hjm
    rw[hdi _ hjk,hidx] at this
    rw[List.getElem!_eq_getElem?_getD,this]
    rfl
   have hjc:j < c.size:=by omega
   refine⟨?_,?_⟩
   ·rw[cell_mk e2,hv,Nat.zero_add]
    exact hgetD j hjc
   ·simp[World.frozen?,e2]
  have hblk:b < w.heap.size:=(Array.getElem?_eq_some_iff.1 e2).1
  have hC:CmpLays P g #[] enc k cfI b 0 d.size w:=by
   intro m os dk hdk x y
   obtain⟨X,hX⟩:=hel x
   obtain⟨Y,hY⟩:=hel y
   have:=hcmp μ F w X Y _ _ (List.mem_of_getElem? hX) (List.mem_of_getElem? hY) (hrep x X hX) (hrep y Y hY) (sortWorldK enc k w b 0 m dk os)
   have e:cfI x y=cf (key X) (key Y):=by simp[cfI,keyI,hX,hY]
   rw[e]
   simpa using this
  have hcall:=AnyQ.slices_SortFunc (P:=P) (ρ:=ρ) L k aE zE enc hk h1 cfI hOI g #[] b 0 cap d w (fun args w=>run_enter hge args w) hC hH hblk (by rw[hds];exact hsz)
  rw[hds] at hcall
  refine hcall.mono ?_
  rintro e w' ⟨rfl,d',m,os,⟨hp1,_,hp3⟩,hsort,rfl⟩
  have hds':d'.size=n:=by omega
  have hperm:d'.toList.Perm d.toList:=perm_of_extract hp1 (by rw[hds];exact hp3)
  let ys:List AV:=d'.toList.map fun i=>(xs[i.val]?).getD .top
  have hdx:d.toList.map (fun i:Fin n=>(xs[i.val]?).getD .top)=xs:=by
   apply List.ext_getElem?
   intro t
   by_cases ht:t < n
   ·have:xs[t]? =some (xs[t]'(by omega)):=List.getElem?_eq_getElem (by omega)
    simp[d,List.getElem?_map,ht,this]
   ·rw[List.getElem?_eq_none (by simp[d];omega),List.getElem?_eq_none (by omega)]
  have hys:ys.Perm xs:=by
   have:=hperm.map (fun i:Fin n=>(xs[i.val]?).getD .top)
   rwa [hdx] at this
  obtain⟨hw1,hb1⟩:=sort_world enc k w b m d' os e2
  have hyl:ys.length=n:=by simp[ys,hds']
  have hycs:∀y,y∈ys→y.cells.length=k:=fun y hy=>hcs y (hys.mem_iff.1 hy)
  have hyflat:(flat ys).length=n*k:=by rw[flat_length hycs,hyl]
  have hd'i:∀t,t < n→d'.toList[t]? =some d'[t]! :=by
   intro t ht
   rw[Array.getElem?_toList,Array.getElem?_eq_getElem (by omega),getElem!_pos d' t (by omega)]
  have hyi:∀t,t < n→∃x,xs[(d'[t]!).val]? =some x∧ys[t]? =some x:=by
   intro t ht
   obtain⟨x,hxx⟩:=hel d'[t]!
   refine⟨x,hxx,?_⟩
   show (d'.toList.map fun i:Fin n=>(xs[i.val]?).getD .top)[t]? =some x
   rw[List.getElem?_map,hd'i t ht]
   simp[hxx]
  have hsz':(flatK enc k d').size=n*k:=by rw[size_flatK,hds']
  have hput:∀p,(putCells _root_.id 0 (flatK enc k d') c)[p]? =(c[p]?).map fun v=>if p < n*k then (flatK enc k d')[p]! else v:=by
   intro p
   simp[putCells,Array.getElem?_mapIdx,hsz']
  have hcell:∀p,p < n*k→(putCells _root_.id 0 (flatK enc k d') c)[p]? =some (c.getD ((d'[p/k]!).val*k+p%k) undef):=by
   intro p hp
   have hpk:p/k < n:=Nat.div_lt_of_lt_mul (by rwa [Nat.mul_comm] at hp)
   have hpm:p%k < k:=Nat.mod_lt _ hk0
   rw[hput,Array.getElem?_eq_getElem (by omega),Option.map_some,if_pos hp,get_flatK enc k d' p (by rw[hds'];exact hp)]
   have:=henc (d'[p/k]!) (p%k) hpm
   rw[List.getElem!_eq_getElem?_getD,this]
   rfl
  have hbig:∀p,¬p < n*k→(putCells _root_.id 0 (flatK enc k d') c)[p]? =c[p]? :=by
   intro p hp
   rw[hput]
   simp[hp]
  obtain⟨hev,hG⟩:=gam_write hg e1 e2 hw1 (l:=flat ys++l.drop (n*k)) (c:=putCells _root_.id 0 (flatK enc k d') c) (World.putObj_heap_same hblk) (by simp[putCells]) (by simp[putCells,hyflat];omega) (by
   intro p v hv
   by_cases hp:p < n*k
   ·rw[hcell p hp] at hv
    cases hv
    have hpm:p%k < k:=Nat.mod_lt _ hk0
    exact e4 _ _ (hgetD _ (hbnd _ _ hpm))
   ·rw[hbig p hp] at hv
    exact e4 p v hv) (by
   intro p y v hy hv
   by_cases hp:p < n*k
   ·rw[hcell p hp] at hv
    cases hv
    rw[List.getElem?_append_left (by omega)] at hy
    have hpk:p/k < n:=Nat.div_lt_of_lt_mul (by rwa [Nat.mul_comm] at hp)
    have hpm:p%k < k:=Nat.mod_lt _ hk0
    have hidx:p/k*k+p%k=p:=by rw[Nat.mul_comm];exact Nat.div_add_mod p k
    obtain⟨x,hx1,hx2⟩:=hyi (p/k) hpk
    obtain⟨cs,rfl,hcl⟩:=hs x (List.mem_of_getElem? hx1)
    have hz:cs[p%k]? =some (cs[p%k]'(by omega)):=List.getElem?_eq_getElem (by omega)
    have hf:(flat ys)[p/k*k+p%k]? =some (cs[p%k]'(by omega)):=flat_get hycs hx2 hz
    rw[hidx,hy] at hf
    cases hf
    obtain⟨c9,hc9,_,h3,_⟩:=(hrep _ _ hx1).agg_inv
    cases hc9
    exact h3 (p%k) _ _ hz (by rw[List.getElem?_toArray];exact henc _ _ hpm)
   ·rw[hbig p hp] at hv
    rw[List.getElem?_append_right (by omega),hyflat,List.getElem?_drop] at hy
    have e:n*k+(p - n*k)=p:=by omega
    rw[e] at hy
    exact e5 p y v hy hv)
  have hb2:Below w.heap.size (w.putObj b (.cells (putCells _root_.id 0 (flatK enc k d') c) ty (0,0))) (sortWorldK enc k w b 0 m d' os):=hb1
  have hb3:Below (w.putObj b (.cells (putCells _root_.id 0 (flatK enc k d') c) ty (0,0))).heap.size (w.putObj b (.cells (putCells _root_.id 0 (flatK enc k d') c) ty (0,0))) (sortWorldK enc k w b 0 m d' os):=by
   rw[World.putObj_size]
   exact hb2
  refine⟨μ,_,hev.trans (Evo.of_below μ hb3),hG.below hb3,.tup [],.tup _ _ rfl (by intro i x v hx;simp at hx),rfl,ys,hys,?_,rfl⟩
  rw[List.pairwise_iff_getElem]
  intro i j hi hj hij
  have hj':j < n:=by omega
  obtain⟨x,hx1,hx2⟩:=hyi i (by omega)
  obtain⟨y,hy1,hy2⟩:=hyi j hj'
  have ex:ys[i]=x:=by
   have:=List.getElem?_eq_getElem hi
   rw[hx2] at this
   exact (Option.some.inj this).symm
  have ey:ys[j]=y:=by
   have:=List.getElem?_eq_getElem hj
   rw[hy2] at this
   exact (Option.some.inj this).symm
  rw[ex,ey]
  have h:=hsort i j (Nat.zero_le _) hij hj'
  have h2:cfI d'[j]! d'[i]! =cf (key y) (key x):=by simp[cfI,keyI,hx1,hy1]
  unfold ltOf at h
  rw[h2] at h
  simpa using h
theorem sortFunc_none {P:Program} {ρ:Ren} (L:SlLaysF0.n6 P ρ) (he:Enters P (ρ.f 6)) {g:FuncId} {sz:Nat} {t:Tag}:APure P (ρ.f 6) [.sl sz [] t,.fn (.func g) [] []] (.tup []):=by
 refine apure_calls he fun μ F w vs hf hv=>?_
 obtain⟨hl,hr⟩:=hv
 match vs,hl with
 |⟨[v1,v2]⟩,_=>
  have r1:=hr 0 _ v1 rfl rfl
  obtain⟨A,cap,ad,vals,rfl,_⟩:=r1.sl_inv
  refine (AnyF.slices_SortFunc_none (P:=P) (ρ:=ρ) L A cap v2 w).mono ?_
  rintro e w' ⟨rfl,rfl⟩
  exact⟨_,rfl,Below.refl _ _,.tup _ _ rfl (by intro i x v hx;simp at hx)⟩
end Go.Ab
namespace Go.Ab
open Go.RowKit
theorem run_bounds3 {P:Program} {w:World} {isS:Bool} {n m:Nat} {L:Option Value} {k1 k2:IntKind} {l h:Int} (hL:(L=none∧l=0)∨∃k,L=some (.int k l)) (h0:0≤l) (h1:l≤h) (h2:h≤m):
  (Instr.sliceBounds isS n m L (some (.int k1 h)) (some (.int k2 h))).run P w=.ok (l.toNat,h.toNat,h.toNat) w:=by
 have a1:0≤h:=by omega
 have a2:l≤((h.toNat:Nat):Int):=by omega
 have a3:h≤((h.toNat:Nat):Int):=by omega
 rcases hL with ⟨rfl,rfl⟩|⟨k,rfl⟩
 ·simp[Instr.sliceBounds,run_sliceBound a1 h2,run_sliceBound a1 a3]
 ·simp[Instr.sliceBounds,run_sliceBound a1 h2,run_sliceBound a1 a3,run_sliceBound h0 a2]
theorem opP_slice3 {P:Program} {τ:Tab} (hτ:TabOK P τ) {t e:TypeId} {ti ei:TI} (ht:lookup τ t=some ti) (hk:ti.k=.slice e) (he:lookup τ e=some ei) {X:Operand} {L:Option Operand} {Hh Mx:Operand} {k1 k2:IntKind} {ty:TypeId} {ρ:Operand→AV} {sz:Nat} {xs:List AV} {tg:Tag} {l h:Int}
  (hX:ρ X=.sl sz xs tg) (hL:bnd (L.map ρ) 0=some l) (hH:ρ Hh=.int k1 h) (hMx:ρ Mx=.int k2 h) (h0:0≤l) (h1:l≤h) (h2:h≤xs.length) (hsz:sz=ei.size):
  OpP P (.slice t X L (some Hh) (some Mx)) ty ρ (.sl sz ((xs.take h.toNat).drop l.toNat) .none):=by
 refine opP_of_same ?_
 intro μ F w ρc o ho hty hr
 have hx:=hr X (by simp[Op.operands])
 rw[hX] at hx
 generalize hv:ρc X=v at hx
 obtain⟨A,cap,ad,vals,rfl,hs,hcap,hA,hone,hcell,hrep,htag⟩:=hx.sl_inv
 obtain⟨ft,dt,zt,HT⟩:=TI.spec hτ ht
 obtain⟨fe,de,ze,HE⟩:=TI.spec hτ he
 have hf:=HT.fits
 rw[hk] at hf
 have hdd:dt=.slice e:=by
  cases dt<;>simp[TK.fits] at hf
  rw[hf]
 subst hdd
 have rH:=hr Hh (by simp[Op.operands])
 have rM:=hr Mx (by simp[Op.operands])
 rw[hH] at rH
 rw[hMx] at rM
 have eH:ρc Hh=.int k1 h:=by
  generalize ρc Hh=u at rH
  cases rH
  rfl
 have eM:ρc Mx=.int k2 h:=by
  generalize ρc Mx=u at rM
  cases rM
  rfl
 have hb:=run_bounds3 (P:=P) (w:=w) (isS:=true) (n:=xs.length) (m:=cap) (k1:=k1) (k2:=k2) (bnd_spec (d:=0) hL fun x hx=>hr x (by simp[Op.operands,hx])) h0 h1 (by omega)
 obtain⟨ln,rfl⟩:=Int.eq_ofNat_of_zero_le h0
 obtain⟨hn,rfl⟩:=Int.eq_ofNat_of_zero_le (show 0≤h by omega)
 simp only[Int.toNat_natCast] at hb ⊢
 have hlen:((xs.take hn).drop ln).length=hn - ln:=by simp;omega
 have hget:∀(i:Nat) (x:AV),((xs.take hn).drop ln)[i]? =some x→xs[ln+i]? =some x:=by
  intro i x hx
  rw[List.getElem?_drop,List.getElem?_take] at hx
  split at hx
  ·exact hx
  ·cases hx
 refine⟨.slice (if hn=ln then A else A.map (·.add (ln*sz))) ((xs.take hn).drop ln).length (hn - ln),?_,?_⟩
 ·simp only[execOp,ho,hv,Instr.sliceAt,Sem.run_bind,run_underlying HT.und,Result.andThen_ok,Instr.slice,Option.map_some,eH,eM,hb,run_sizeOf w HE.info,HE.cellsOf,Sem.run_pure,hlen,hsz]
 ·have hsh:∀i j:Nat,ln*sz+(i*sz+j)=(ln+i)*sz+j:=fun i j=>by rw[Nat.add_mul,Nat.add_assoc]
  refine .sl _ _ _ _ _ ⟨ad.block,ad.off+ln*sz,none⟩ (fun p=>vals (ln*sz+p)) ?_ (by rw[hlen];omega) ?_ ?_ ?_ ?_ trivial
  ·intro x hx
   exact hs x (List.mem_of_mem_take (List.mem_of_mem_drop hx))
  ·intro h3
   rw[hlen] at h3
   obtain⟨h4,h5⟩:=hA (by omega)
   rw[if_neg (by omega),h4]
   refine⟨?_,rfl⟩
   obtain⟨bb,oo,ss⟩:=ad
   simp only at h5
   subst h5
   simp[Addr.add_lit]
  ·intro i x j c hx hj
   show (vals _).oneCell'=true
   rw[hsh]
   exact hone _ _ _ _ (hget i x hx) hj
  ·intro i x j c hx hj
   have:=hcell _ _ _ _ (hget i x hx) hj
   simp only
   rw[Nat.add_assoc,hsh]
   exact this
  ·intro i x j c hx hj
   show Rep _ _ _ _ (vals _)
   rw[hsh]
   exact hrep _ _ _ _ (hget i x hx) hj
section
variable {P:Program} {τ:Tab} {ops:Array Oper} {cls:Nat→Cls} {Q:AX→AF→Mem→Prop} {ds:List ADef} {ls:List Nat} {i:Nat} {t:List (Nat×AV)} {M:Mem}
def stepSlc3 (τ:Tab) (ops:Array Oper) (ds:List ADef) (i:Nat) (t:List (Nat×AV)):Option (Nat×Nat×List AV×Int×Int×Int):=
 match ops[i]? with
 |some o=>(match wantedA ops ⟨t,ds⟩ o,o.dst,o.op with
  |some true,some d,.slice ty X L (some H) (some Mx)=>(match AF.ev ⟨t,ds⟩ X,lookup τ ty with
   |.sl sz xs tg,some ti=>(match ti.k with
    |.slice e=>(match lookup τ e with
     |some ei=>(match decide (sz=ei.size),bnd (L.map (AF.ev ⟨t,ds⟩)) 0,AF.ev ⟨t,ds⟩ H,AF.ev ⟨t,ds⟩ Mx with
      |true,some lo,.int _ hi,.int _ mx=>some (d,sz,xs,lo,hi,mx)
      |_,_,_,_=>none)
     |none=>none)
    |_=>none)
   |_,_=>none)
  |_,_,_=>none)
 |none=>none
theorem DW_slc3 (hτ:TabOK P τ) {d sz:Nat} {xs ys:List AV} {lo hi mx:Int} (hs:stepSlc3 τ ops ds i t=some (d,sz,xs,lo,hi,mx)) (hx:0≤lo∧lo≤hi∧hi≤xs.length∧(xs.take hi.toNat).drop lo.toNat=ys) (hm:mx=hi) (h:DW P ops cls Q ds ls ((d,.sl sz ys .none)::t) M):DW P ops cls Q ds (i::ls) t M:=by
 obtain⟨h0,h1,h2,rfl⟩:=hx
 unfold stepSlc3 at hs
 split at hs
 ·rename_i o hi'
  split at hs
  ·rename_i d' ty X L H Mx hw hd ho
   split at hs
   ·rename_i sz' xs' tg ti hX ht
    split at hs
    ·rename_i e hk
     split at hs
     ·rename_i ei he
      split at hs
      ·rename_i lo' k1 hi2 k2 mx2 hsz hL hH hMx
       cases hs
       subst hm
       exact DW_ofP hi' hw hd (by rw[ho];exact opP_slice3 hτ ht hk he hX hL hH hMx h0 h1 h2 (of_decide_eq_true hsz)) h
      ·cases hs
     ·cases hs
    ·cases hs
   ·cases hs
  ·cases hs
 ·cases hs
end
end Go.Ab
namespace Go.Proofs.YtbcaejhhgkcgpaaGreatDoor
open Go.Ab
def OwnI (k:Nat) (N:Mem) (x:AV) (ch:List Int):Prop:=(ch=[]∧∃sz t,x=.sl sz [] t)∨
 ∃(id cap:Nat) (cells:List AV),x=.osl id 0 ch.length cap 1∧0 < id∧id < k∧N.get id=some (.cells cells)∧cells.take ch.length=(ch.map fun n=>AV.int .i64 n)∧ch.length≤cap∧cells.length=cap
def ChOwn (k:Nat) (N:Mem) (x:AV) (c:Ch):Prop:=∃y,x=.agg [.str c.path,.bool c.gone,.int .i64 c.meta_.size,.int .i64 c.meta_.mode,y]∧OwnI k N y c.meta_.ch
def Kept (k:Nat) (N N':Mem):Prop:=∀id,0 < id→id < k→N'.get id=N.get id
theorem Kept.refl {k:Nat} {N:Mem}:Kept k N N:=fun _ _ _=>rfl
theorem Kept.trans {k:Nat} {a b c:Mem} (h:Kept k a b) (g:Kept k b c):Kept k a c:=fun id h0 h1=>(g id h0 h1).trans (h id h0 h1)
theorem Kept.push {k:Nat} {N:Mem} {o:AObj} (hk:k≤N.next):Kept k N (N.push o):=fun id _ h=>by rw[Mem.get_push,if_neg (by omega)]
theorem Kept.set {k:Nat} {N:Mem} {id:Nat} {o:AObj} (hi:id=0∨k≤id):Kept k N (N.set id o):=fun j h0 h1=>by rw[Mem.get_set,if_neg (by omega)]
theorem Kept.drop {k:Nat} {N:Mem} {id:Nat} (hi:k≤id):Kept k N (N.drop id):=fun j h0 h1=>by rw[Mem.get_drop,if_neg (by omega)]
def KeptA (N N':Mem):Prop:=N.next≤N'.next∧∀id,id < N.next→N'.get id=N.get id
theorem KeptA.refl (N:Mem):KeptA N N:=⟨Nat.le_refl _,fun _ _=>rfl⟩
theorem KeptA.push {N:Mem} {o:AObj}:KeptA N (N.push o):=⟨Nat.le_succ _,fun id h=>by rw[Mem.get_push,if_neg (by omega)]⟩
theorem get_push_self {M:Mem} {o:AObj}:(M.push o).get M.next=some o:=by rw[Mem.get_push,if_pos rfl]
theorem get_set_self {M:Mem} {id:Nat} {o:AObj}:(M.set id o).get id=some o:=by rw[Mem.get_set,if_pos rfl]
theorem OwnI.kept {k k':Nat} {N N':Mem} {x:AV} {ch:List Int} (h:OwnI k N x ch) (g:Kept k N N') (hk:k≤k'):OwnI k' N' x ch:=by
 rcases h with h|⟨id,cap,cells,h1,h2,h3,h4,h5⟩
 ·exact .inl h
 ·exact .inr ⟨id,cap,cells,h1,h2,Nat.lt_of_lt_of_le h3 hk,(g id h2 h3).trans h4,h5⟩
theorem ChOwn.kept {k k':Nat} {N N':Mem} {x:AV} {c:Ch} (h:ChOwn k N x c) (g:Kept k N N') (hk:k≤k'):ChOwn k' N' x c:=by
 obtain⟨y,h1,h2⟩:=h
 exact⟨y,h1,h2.kept g hk⟩
theorem flat_iL:∀ch:List Int,flat (ch.map fun n=>AV.int .i64 n)=ch.map fun n=>AV.int .i64 n
 |[]=>rfl
 |a::r=>by
  have:=flat_iL r
  unfold flat at this ⊢
  simp only[List.map_cons,List.flatMap_cons,this]
  rfl
theorem OwnI.view {k:Nat} {N:Mem} {x:AV} {ch:List Int} (h:OwnI k N x ch):View 0 N x (iA ch .none):=by
 rcases h with ⟨rfl,sz,t,rfl⟩|⟨id,cap,cells,rfl,h2,h3,h4,h5,h6,h7⟩
 ·refine .sub _ _ fun μ μ0 F w v hf hr=>?_
  obtain⟨A,cap,ad,vals,rfl,hsz,hcap,hA,hone,hcell,hrep,htag⟩:=hr.sl_inv
  exact .sl 1 [] .none A cap ad vals (by intro x hx;cases hx) hcap hA (by intro i x j c hx;simp at hx) (by intro i x j c hx;simp at hx) (by intro i x j c hx;simp at hx) trivial
 ·have e:(ch.map fun n=>AV.int .i64 n).length=ch.length:=by simp
  have hf:=flat_iL ch
  refine .osl id ch.length cap 1 cells _ (Nat.zero_le _) h4 h6 e ?_ (by omega) ?_
  ·intro x hx
   obtain⟨n,_,rfl⟩:=List.mem_map.1 hx
   rfl
  ·intro p a b ha hb
   rw[hf] at hb
   have hp:p < ch.length:=by rw[←e];exact (List.getElem?_eq_some_iff.1 hb).1
   have ha2:(cells.take ch.length)[p]? =some a:=by rw[List.getElem?_take,if_pos hp];exact ha
   rw[h5,hb] at ha2
   cases ha2
   obtain⟨n,_,rfl⟩:=List.mem_map.1 (List.mem_of_getElem? hb)
   exact .closed closed_int
theorem ChOwn.view {k:Nat} {N:Mem} {x:AV} {c:Ch} (h:ChOwn k N x c):ViewC 0 N x c.av:=by
 obtain⟨y,rfl,hy⟩:=h
 refine⟨rfl,fun j a b ha hb=>?_⟩
 match j,ha,hb with
 |0,ha,hb=>cases ha;cases hb;exact .closed closed_str
 |1,ha,hb=>cases ha;cases hb;exact .closed closed_bool
 |2,ha,hb=>cases ha;cases hb;exact .closed closed_int
 |3,ha,hb=>cases ha;cases hb;exact .closed closed_int
 |4,ha,hb=>cases ha;cases hb;exact hy.view
 |j+5,ha,hb=>simp[AV.cells] at ha
theorem lt_bl (a b:Bytes):Go.Proofs.ltOf Lib.compareBytes a b=bl a b:=by
 have h:=cmpL_neg a b
 unfold Go.Proofs.ltOf
 cases hb:bl a b
 ·rw[hb] at h
  have:0≤Lib.compareBytes a b:=by simpa using h
  simp
  omega
 ·rw[hb] at h
  have:¬0≤Lib.compareBytes a b:=by simpa using h
  simp
  omega
theorem swo_bl:Go.Sort.SWO (Go.Proofs.ltOf Lib.compareBytes):=by
 refine⟨fun x=>by rw[lt_bl,bl_irrefl],fun x y z=>?_,fun x y z=>?_⟩
 ·rw[lt_bl,lt_bl,lt_bl]
  exact bl_trans
 ·rw[lt_bl,lt_bl,lt_bl]
  intro h1 h2
  cases hb:bl x z
  ·rfl
  ·by_cases hxy:x=y
   ·subst hxy
    rw[hb] at h2
    cases h2
   ·have h3:=(bl_total hxy).resolve_left (by simp[h1])
    have h4:=bl_trans h3 hb
    rw[h4] at h2
    cases h2
def keyA:AV→Bytes
 |.agg (.str s::_)=>s
 |_=>[]
theorem keyA_own {k:Nat} {N:Mem} {x:AV} {c:Ch} (h:ChOwn k N x c):keyA x=c.path:=by
 obtain⟨y,rfl,_⟩:=h
 rfl
theorem sorted_rows {k:Nat} {N:Mem} {l:List Ch} {xs:List AV} {m:List Ch} (hm:m.Perm ((mapC l).map (·.2))) (h:All2 (ChOwn k N) xs m) {ys:List AV} (hp:ys.Perm xs) (hs:ys.Pairwise fun a b=>¬Lib.compareBytes (keyA b) (keyA a) < 0):All2 (ChOwn k N) ys (sortC l):=by
 obtain⟨m2,k1,k2⟩:=All2.perm hp h
 have hk:ys.map keyA=m2.map Ch.path:=by
  apply List.ext_getElem?
  intro i
  rw[List.getElem?_map,List.getElem?_map]
  have hl:=k2.len
  by_cases hi:i < ys.length
  ·have h1:=List.getElem?_eq_getElem hi
   have h2:=List.getElem?_eq_getElem (show i < m2.length by omega)
   rw[h1,h2]
   simp[keyA_own (k2.get h1 h2)]
  ·rw[List.getElem?_eq_none (by omega),List.getElem?_eq_none (by omega)]
   rfl
 have hs2:m2.Pairwise fun a b=>bl b.path a.path=false:=by
  have h1:(ys.map keyA).Pairwise fun p q=>bl q p=false:=by
   rw[List.pairwise_map]
   refine hs.imp fun {a b} hab=>?_
   have:=lt_bl (keyA b) (keyA a)
   unfold Go.Proofs.ltOf at this
   rw[←this]
   simpa using hab
  rw[hk,List.pairwise_map] at h1
  exact h1
 rw[←sorted_map (k1.trans hm) hs2]
 exact k2
set_option maxRecDepth 100000 in
theorem cloneI_ok (ch:List Int) (hl:ch.length < 1000000) (M:Mem) (h0:0 < M.next):ACalls Tryz.prog 50 [iA ch .none] M (fun e N=>∃x,e=.ret x∧KeptA M N∧OwnI N.next N x ch∧∀id off n cap sz,x=.osl id off n cap sz→M.next≤id):=by
 refine acalls_of tabOK Tryz.func50 rfl (by decide) (by simp[Tryz.f50]) ?_
 unfold iA
 repeat' (first|refine DW_A tabs rfl ?_|refine DW_nil ?_|refine W_A rfl ?_|refine DW_row tabOK rfl ?_)
 refine DW_nils rfl rfl ?_
 intro b hb
 cases b
 ·by_cases hc:ch=[]
  ·subst hc
   repeat' (first|refine DW_A tabs rfl ?_|refine DW_nil ?_|refine W_A rfl ?_|refine DW_row tabOK rfl ?_)
   refine DW_appE tabOK rfl rfl rfl rfl rfl rfl rfl rfl rfl rfl rfl rfl ?_
   repeat' (first|refine DW_A tabs rfl ?_|refine DW_nil ?_|refine W_A rfl ?_|refine DW_row tabOK rfl ?_)
   exact⟨rfl,_,rfl,_,rfl,KeptA.refl _,.inl ⟨rfl,_,_,rfl⟩,by intro id off n cap sz h;cases h⟩
  ·have hne:(ch.map fun n=>AV.int .i64 n)≠[]:=fun e=>hc (by simpa using e)
   have le:(ch.map fun n=>AV.int .i64 n).length=ch.length:=by simp
   repeat' (first|refine DW_A tabs rfl ?_|refine DW_nil ?_|refine W_A rfl ?_|refine DW_row tabOK rfl ?_)
   refine DW_napp tabOK rfl rfl rfl rfl rfl rfl rfl rfl rfl rfl rfl (.inr rfl) rfl rfl hne (by simp;omega) (by simp;omega) ?_
   intro cap' l' g1 g2 g3
   repeat' (first|refine DW_A tabs rfl ?_|refine DW_nil ?_|refine W_A rfl ?_|refine DW_row tabOK rfl ?_)
   refine⟨rfl,_,rfl,_,rfl,KeptA.push,.inr ⟨M.next,cap',l',?_,h0,Nat.lt_succ_self _,?_,?_,?_,?_⟩,by intro id off n cap sz h;cases h;exact Nat.le_refl _⟩
   ·simp
    rfl
   ·rw[Mem.get_push,if_pos rfl]
   ·rw[flat_iL] at g3
    simpa [flat] using g3
   ·simpa using g1
   ·simpa using g2
 ·have hc:ch=[]:=by
   by_cases hc:ch=[]
   ·exact hc
   ·exact absurd (hb (by simpa using hc)) (by simp)
  subst hc
  repeat' (first|refine DW_A tabs rfl ?_|refine DW_nil ?_|refine W_A rfl ?_|refine DW_row tabOK rfl ?_)
  exact⟨rfl,_,rfl,_,rfl,KeptA.refl _,.inl ⟨rfl,_,_,rfl⟩,by intro id off n cap sz h;cases h⟩
def RelC (k:Nat) (N:Mem) (ml:List (Bytes×AV)) (mc:List (Bytes×Ch)):Prop:=All2 (fun p q=>p.1=q.1∧ChOwn k N p.2 q.2) ml mc
theorem RelC.kept {k k':Nat} {N N':Mem} {ml:List (Bytes×AV)} {mc:List (Bytes×Ch)} (h:RelC k N ml mc) (g:Kept k N N') (hk:k≤k'):RelC k' N' ml mc:=h.mono fun a b ⟨h1,h2⟩=>⟨h1,h2.kept g hk⟩
theorem RelC.upd {k:Nat} {N:Mem} {p:Bytes} {x:AV} {c:Ch} (hx:ChOwn k N x c):∀{ml:List (Bytes×AV)} {mc:List (Bytes×Ch)},RelC k N ml mc→RelC k N (upd ml p x) (upd mc p c)
 |[],[],_=>⟨⟨rfl,hx⟩,trivial⟩
 |(a,y)::l,(b,d)::m,h=>by
  obtain⟨⟨h1,h2⟩,h3⟩:=h
  have h1:a=b:=h1
  subst h1
  unfold Go.Ab.upd
  split
  ·exact⟨⟨rfl,hx⟩,h3⟩
  ·exact⟨⟨rfl,h2⟩,RelC.upd hx h3⟩
 |[],_::_,h=>h.elim
 |_::_,[],h=>h.elim
def mapI (l:List Ch) (i:Nat) (N:Mem):Prop:=0 < N.next∧∃ml,IsMap N 0 ml∧RelC N.next N ml (mapC (l.take i))
def valsAt (ml:List (Bytes×AV)) (seen:List Nat):List AV:=seen.map fun j=>((ml[j]?).map (·.2)).getD .top
theorem perm_range {n:Nat} {seen:List Nat} (h1:seen.Nodup) (h2:∀j,j∈seen↔j < n):seen.Perm (List.range n):=
 (List.perm_ext_iff_of_nodup h1 List.nodup_range).2 fun j=>by rw[h2];simp
theorem vals_perm {ml:List (Bytes×AV)} {seen:List Nat} (h1:seen.Nodup) (h2:∀j,j∈seen↔j < ml.length):(valsAt ml seen).Perm (ml.map (·.2)):=by
 have h:=(perm_range h1 h2).map fun j=>((ml[j]?).map (·.2)).getD AV.top
 have e:(List.range ml.length).map (fun j=>((ml[j]?).map (·.2)).getD AV.top)=ml.map (·.2):=by
  apply List.ext_getElem?
  intro i
  rw[List.getElem?_map,List.getElem?_map]
  by_cases hi:i < ml.length
  ·rw[List.getElem?_range hi,List.getElem?_eq_getElem hi]
   simp[List.getElem?_eq_getElem hi]
  ·rw[List.getElem?_eq_none (by simp;omega),List.getElem?_eq_none (by omega)]
   rfl
 rw[e] at h
 exact h
end Go.Proofs.YtbcaejhhgkcgpaaGreatDoor
namespace Go.Ab
open Go.RowKit
section
variable {P:Program} {τ:Tab} {ops:Array Oper} {cls:Nat→Cls} {Q:AX→AF→Mem→Prop} {ds:List ADef} {ls:List Nat} {i:Nat} {t:List (Nat×AV)} {M:Mem}
def ldO (τ:Tab) (ty:TypeId) (off:Nat) (l:List AV):Option AV:=
 match lookup τ ty with
 |some ti=>if ti.agg=true then (if off+ti.size≤l.length then some (.agg ((l.drop off).take ti.size)) else none) else l[off]?
 |none=>none
def stepLdM (τ:Tab) (ops:Array Oper) (cls:Nat→Cls) (ds:List ADef) (i:Nat) (t:List (Nat×AV)) (l:List AV):Option (Nat×Nat×AV):=
 match ops[i]? with
 |some o=>
  match wantedA ops ⟨t,ds⟩ o,o.dst,notP (cls i),o.op with
  |some true,some d,true,.load ty x=>(match AF.ev ⟨t,ds⟩ x with
   |.ptr id off=>(match ldO τ ty off l with
    |some y=>(match y.force with|some z=>some (d,id,z)|none=>none)
    |none=>none)
   |_=>none)
  |_,_,_,_=>none
 |none=>none
theorem DW_ldM (hτ:TabOK P τ) {id:Nat} {l:List AV} (hM:M.get id=some (.cells l)) {d:Nat} {y:AV} (hs:stepLdM τ ops cls ds i t l=some (d,id,y)) (h:DW P ops cls Q ds ls ((d,y)::t) M):DW P ops cls Q ds (i::ls) t M:=by
 unfold stepLdM at hs
 split at hs
 ·rename_i o hi
  split at hs
  ·rename_i d' ty x hw hd hc ho
   split at hs
   ·rename_i id' off hx
    split at hs
    ·rename_i y' hl
     split at hs
     ·rename_i z hz
      cases hs
      refine DW_ofR hi hw hd hc ?_ h
      rw[ho]
      refine opR_load hτ ?_
      rw[hx]
      unfold aloadM
      simp only[hM]
      rw[←AV.force_spec hz,←hl]
      unfold ldO
      cases lookup τ ty<;>rfl
     ·cases hs
    ·cases hs
   ·cases hs
  ·cases hs
 ·cases hs
def stepFdM (τ:Tab) (ops:Array Oper) (cls:Nat→Cls) (ds:List ADef) (i:Nat) (t:List (Nat×AV)):Option (Nat×Nat×Nat):=
 match ops[i]? with
 |some o=>
  match wantedA ops ⟨t,ds⟩ o,o.dst,notP (cls i),o.op with
  |some true,some d,true,.fieldAddr ty x j=>(match AF.ev ⟨t,ds⟩ x with
   |.ptr id off=>(match fieldAt τ ty j with
    |some (k,fi)=>if fi.size≠0 then some (d,id,off+k) else none
    |none=>none)
   |_=>none)
  |_,_,_,_=>none
 |none=>none
theorem DW_fdM (hτ:TabOK P τ) {id:Nat} {l:List AV} (hM:M.get id=some (.cells l)) {d off:Nat} (hs:stepFdM τ ops cls ds i t=some (d,id,off)) (h:DW P ops cls Q ds ls ((d,.ptr id off)::t) M):DW P ops cls Q ds (i::ls) t M:=by
 unfold stepFdM at hs
 split at hs
 ·rename_i o hi
  split at hs
  ·rename_i d' ty x j hw hd hc ho
   split at hs
   ·rename_i id' off' hx
    split at hs
    ·rename_i k fi hf
     split at hs
     ·rename_i hz
      cases hs
      refine DW_ofR hi hw hd hc ?_ h
      rw[ho]
      refine opR_faddr hτ ?_
      rw[hx]
      unfold afaddrM
      simp only[hM,hf]
      rw[if_pos hz]
     ·cases hs
    ·cases hs
   ·cases hs
  ·cases hs
 ·cases hs
def stepStM (τ:Tab) (ops:Array Oper) (cls:Nat→Cls) (ds:List ADef) (i:Nat) (t:List (Nat×AV)) (l:List AV):Option (Nat×List AV):=
 match ops[i]? with
 |some o=>
  match wantedA ops ⟨t,ds⟩ o,o.dst,isE (cls i),o.op with
  |some true,none,true,.store ty x y=>(match AF.ev ⟨t,ds⟩ x,lookup τ ty with
   |.ptr id off,some ti=>(match decide ((AF.ev ⟨t,ds⟩ y).solid=true∧(AF.ev ⟨t,ds⟩ y).cells.length=ti.size∧off+ti.size≤l.length),forceL (writeAt l off (AF.ev ⟨t,ds⟩ y).cells) with
    |true,some l'=>some (id,l')
    |_,_=>none)
   |_,_=>none)
  |_,_,_,_=>none
 |none=>none
theorem DW_stM (hτ:TabOK P τ) {id:Nat} {l:List AV} (hM:M.get id=some (.cells l)) {l':List AV} (hs:stepStM τ ops cls ds i t l=some (id,l')) (h:DW P ops cls Q ds ls t (M.set id (.cells l'))):DW P ops cls Q ds (i::ls) t M:=by
 unfold stepStM at hs
 split at hs
 ·rename_i o hi
  split at hs
  ·rename_i ty x y hw hd hc ho
   split at hs
   ·rename_i id' off ti hx ht
    split at hs
    ·rename_i l2 hb hl
     cases hs
     obtain⟨h1,h2,h3⟩:=of_decide_eq_true hb
     have:=forceL_spec hl
     subst this
     exact DW_ofE0 hi hw hd hc (by rw[ho];exact opE_store hτ ht hx hM h1 h2 h3) h
    ·cases hs
   ·cases hs
  ·cases hs
 ·cases hs
end
end Go.Ab
namespace Go.Proofs.YtbcaejhhgkcgpaaGreatDoor
open Go.Proofs Go.Shelf
def renSortC:Go.Shelf.Ren:=⟨fun|6=>51|14=>105|15=>106|20=>163|21=>164|22=>165|23=>166|24=>167|25=>168|26=>169|27=>170|28=>171|29=>172|46=>208|47=>209|48=>210|49=>211|50=>212|57=>236|n=>n,fun|0=>0|3=>3|4=>4|5=>5|9=>9|22=>22|24=>39|25=>82|39=>146|45=>194|46=>195|50=>199|53=>202|55=>204|66=>247|70=>251|76=>281|77=>282|n=>n,fun|n=>n⟩
theorem laysSortC:SlLaysF0.n6 Tryz.prog renSortC:={
 mixed:=by kernel_rfl
 f6:=⟨Tryz.f51.name,by kernel_rfl,Tryz.func51.trans (congrArg some (by kernel_rfl))⟩
 f14:=⟨Tryz.f105.name,by kernel_rfl,Tryz.func105.trans (congrArg some (by kernel_rfl))⟩
 f15:=Tryz.func106.trans (congrArg some (by kernel_rfl))
 f20:=⟨Tryz.f163.name,by kernel_rfl,Tryz.func163.trans (congrArg some (by kernel_rfl))⟩
 f21:=⟨Tryz.f164.name,by kernel_rfl,Tryz.func164.trans (congrArg some (by kernel_rfl))⟩
 f22:=⟨Tryz.f165.name,by kernel_rfl,Tryz.func165.trans (congrArg some (by kernel_rfl))⟩
 f23:=⟨Tryz.f166.name,by kernel_rfl,Tryz.func166.trans (congrArg some (by kernel_rfl))⟩
 f24:=⟨Tryz.f167.name,by kernel_rfl,Tryz.func167.trans (congrArg some (by kernel_rfl))⟩
 f25:=⟨Tryz.f168.name,by kernel_rfl,Tryz.func168.trans (congrArg some (by kernel_rfl))⟩
 f26:=⟨Tryz.f169.name,by kernel_rfl,Tryz.func169.trans (congrArg some (by kernel_rfl))⟩
 f27:=⟨Tryz.f170.name,by kernel_rfl,Tryz.func170.trans (congrArg some (by kernel_rfl))⟩
 f28:=Tryz.func171.trans (congrArg some (by kernel_rfl))
 f29:=Tryz.func172.trans (congrArg some (by kernel_rfl))
 f46:=⟨Tryz.f208.name,by kernel_rfl,Tryz.func208.trans (congrArg some (by kernel_rfl))⟩
 f47:=Tryz.func209.trans (congrArg some (by kernel_rfl))
 f48:=Tryz.func210.trans (congrArg some (by kernel_rfl))
 f49:=⟨Tryz.f211.name,by kernel_rfl,Tryz.func211.trans (congrArg some (by kernel_rfl))⟩
 f50:=⟨Tryz.f212.name,by kernel_rfl,Tryz.func212.trans (congrArg some (by kernel_rfl))⟩
 f57:=⟨Tryz.f236.name,by kernel_rfl,Tryz.func236.trans (congrArg some (by kernel_rfl))⟩
 t0:=Tryz.underlying0
 a0:=Tryz.isAgg0
 z0:=Tryz.sizeOf0
 v0:=Tryz.zeroValue0
 t3:=Tryz.underlying3
 a3:=Tryz.isAgg3
 z3:=Tryz.sizeOf3
 v3:=Tryz.zeroValue3
 t4:=Tryz.underlying4
 a4:=Tryz.isAgg4
 z4:=Tryz.sizeOf4
 v4:=Tryz.zeroValue4
 t5:=Tryz.underlying5
 a5:=Tryz.isAgg5
 z5:=Tryz.sizeOf5
 v5:=Tryz.zeroValue5
 t9:=Tryz.underlying9
 a9:=Tryz.isAgg9
 z9:=Tryz.sizeOf9
 v9:=Tryz.zeroValue9
 t22:=Tryz.underlying22
 a22:=Tryz.isAgg22
 z22:=Tryz.sizeOf22
 v22:=Tryz.zeroValue22
 t25:=Tryz.underlying82
 a25:=Tryz.isAgg82
 z25:=Tryz.sizeOf82
 v25:=Tryz.zeroValue82
 t39:=Tryz.underlying146
 a39:=Tryz.isAgg146
 z39:=Tryz.sizeOf146
 v39:=Tryz.zeroValue146
 t45:=Tryz.underlying194
 a45:=Tryz.isAgg194
 z45:=Tryz.sizeOf194
 v45:=Tryz.zeroValue194
 t46:=Tryz.underlying195
 a46:=Tryz.isAgg195
 z46:=Tryz.sizeOf195
 v46:=Tryz.zeroValue195
 t50:=Tryz.underlying199
 a50:=Tryz.isAgg199
 z50:=Tryz.sizeOf199
 v50:=Tryz.zeroValue199
 t53:=Tryz.underlying202
 a53:=Tryz.isAgg202
 z53:=Tryz.sizeOf202
 v53:=Tryz.zeroValue202
 t55:=Tryz.underlying204
 a55:=Tryz.isAgg204
 z55:=Tryz.sizeOf204
 v55:=Tryz.zeroValue204
 t66:=Tryz.underlying247
 a66:=Tryz.isAgg247
 z66:=Tryz.sizeOf247
 v66:=Tryz.zeroValue247
 t70:=Tryz.underlying251
 a70:=Tryz.isAgg251
 z70:=Tryz.sizeOf251
 v70:=Tryz.zeroValue251
 t76:=Tryz.underlying281
 a76:=Tryz.isAgg281
 z76:=Tryz.sizeOf281
 v76:=Tryz.zeroValue281
 t77:=Tryz.underlying282
 a77:=Tryz.isAgg282
 z77:=Tryz.sizeOf282
 v77:=Tryz.zeroValue282}
end Go.Proofs.YtbcaejhhgkcgpaaGreatDoor
namespace Go.Proofs.YtbcaejhhgkcgpaaGreatDoor
open Go.Ab Go.Shelf Go.RowKit Go.Lib Go.Sort
theorem to_calls (a b:ByteArray) (v1 v2 v3 v4 u1 u2 u3 u4:Value) (W:World):Calls Tryz.prog 53 #[.agg #[.string a,v1,v2,v3,v4],.agg #[.string b,u1,u2,u3,u4]] W fun e w'=>e=.returned (.int .i64 (Lib.compareBytes a.data.toList b.data.toList))∧∃os',w'=grow W os':=by
 have hcon:=fun W'=>Any.strings_Compare lays106 a b W'
 change ∀W',Calls Tryz.prog 107 _ _ _ at hcon
 generalize Lib.compareBytes a.data.toList b.data.toList=r at hcon ⊢
 go_enter Tryz.func53,Tryz.ntmps53
 go_wp2_with (go_at_call 107;refine (hcon _).mono ?_;rintro e w' ⟨rfl,rfl⟩)
 go_ret
 exact⟨rfl,_,by rw[alloc_eq_grow,alloc_eq_grow,grow_grow]⟩
theorem norm1_calls (a b:ByteArray) (v1 v2 v3 v4 u1 u2 u3 u4:Value) (W:World):Calls Tryz.prog 52 #[.agg #[.string a,v1,v2,v3,v4],.agg #[.string b,u1,u2,u3,u4]] W fun e w'=>e=.returned (.int .i64 (Lib.compareBytes a.data.toList b.data.toList))∧∃q os',w'=grow (W.drewN q) os':=by
 have hcon:=to_calls a b v1 v2 v3 v4 u1 u2 u3 u4
 generalize Lib.compareBytes a.data.toList b.data.toList=r at hcon ⊢
 go_enter Tryz.func52,Tryz.ntmps52
 go_wp2_with (go_at_call 53;refine (hcon _).mono ?_;rintro e w' ⟨rfl,os,rfl⟩)
 go_ret
 exact⟨rfl,0,_,by rw[alloc_eq_grow,alloc_eq_grow,grow_grow,grow_grow];rfl⟩
theorem get_push_ne {N:Mem} {o:AObj} {j:Nat} (h:j≠N.next):(N.push o).get j=N.get j:=by rw[Mem.get_push,if_neg h]
theorem arr5 {c:Array Value} (h:c.size=5):∃a b d e f,c=#[a,b,d,e,f]:=by
 match c,h with
 |⟨[a,b,d,e,f]⟩,_=>exact⟨a,b,d,e,f,rfl⟩
theorem all2_mem {α β:Type} {R:α→β→Prop}:∀{l:List α} {m:List β},All2 R l m→∀{x:α},x∈l→∃y,y∈m∧R x y
 |[],[],_,_,hx=>by cases hx
 |a::l,b::m,h,x,hx=>by
  rcases List.mem_cons.1 hx with rfl|hx
  ·exact⟨b,by simp,h.1⟩
  ·obtain⟨y,h1,h2⟩:=all2_mem h.2 hx
   exact⟨y,by simp[h1],h2⟩
 |[],_::_,h,_,_=>h.elim
 |_::_,[],h,_,_=>h.elim
theorem norm_cmp {k:Nat} {N:Mem} {xs:List AV} {m:List Ch} (h:All2 (ChOwn k N) xs m):CmpOf Tryz.prog 52 Lib.compareBytes keyA xs:=by
 intro μ F w x y c1 c2 hx hy h1 h2 W
 obtain⟨a,_,p,rfl,_⟩:=all2_mem h hx
 obtain⟨b,_,q,rfl,_⟩:=all2_mem h hy
 obtain⟨_,e1,s1,r1,_⟩:=h1.agg_inv
 cases e1
 obtain⟨_,e2,s2,r2,_⟩:=h2.agg_inv
 cases e2
 obtain⟨v0,v1,v2,v3,v4,rfl⟩:=arr5 s1
 obtain⟨u0,u1,u2,u3,u4,rfl⟩:=arr5 s2
 have k1:=r1 0 _ v0 rfl rfl
 have k2:=r2 0 _ u0 rfl rfl
 cases k1
 cases k2
 exact norm1_calls _ _ _ _ _ _ _ _ _ _ W
def nmF1 (l:List Ch) (tg:Tag) (i:Nat):AF:=⟨[(4,.map 0),(13,chA l tg),(14,.int .i64 (l.length:Int)),(15,.int .i64 (i:Int))],[]⟩
def nmF2 (it:Nat) (x:AV):AF:=⟨[(7,x),(31,.ptr it 0)],[]⟩
def NormR (l:List Ch) (e:AEnd) (N:Mem):Prop:=(normC l=([],1)∧e=.ret (.tup [.sl 0 [] .full,.int .i64 1]))∨
 ∃(id cap k:Nat) (cells xs:List AV),normC l=(sortC l,0)∧e=.ret (.tup [.osl id 0 xs.length cap 5,.int .i64 0])∧0 < k∧k≤id∧id < N.next∧N.get id=some (.cells cells)∧cells.take (xs.length*5)=flat xs∧xs.length≤cap∧cells.length=cap*5∧All2 (ChOwn k N) xs (sortC l)
def OutR (k:Nat) (N:Mem) (x:AV) (xs:List AV):Prop:=(xs=[]∧x=.sl 0 [] .full)∨
 xs≠[]∧∃(id cap:Nat) (cells:List AV),x=.osl id 0 xs.length cap 5∧k≤id∧id < N.next∧N.get id=some (.cells cells)∧cells.take (xs.length*5)=flat xs∧xs.length≤cap∧cells.length=cap*5
def seenI (ml:List (Bytes×AV)) (it:Nat) (x:AV) (k:Nat) (N:Mem):Prop:=∃(seen:List Nat),seen.Nodup∧(∀j,j∈seen→j < ml.length)∧k+seen.length=ml.length∧IsMap N 0 ml∧IsIter N it 0 ml.length seen.toArray∧it < N.next∧OutR (it+1) N x (valsAt ml seen)
theorem mapSame {N N':Mem} {id:Nat} {ml:List (Bytes×AV)} (h:IsMap N id ml) (e:N'.get id=N.get id):IsMap N' id ml:=by
 obtain⟨ps,h1,h2⟩:=h
 exact⟨ps,h1,e.trans h2⟩
theorem valsAt_len (ml:List (Bytes×AV)) (seen:List Nat):(valsAt ml seen).length=seen.length:=by simp[valsAt]
theorem relC_vals {k:Nat} {N:Mem}:∀{ml:List (Bytes×AV)} {mc:List (Bytes×Ch)},RelC k N ml mc→All2 (ChOwn k N) (ml.map (·.2)) (mc.map (·.2))
 |[],[],_=>trivial
 |_::_,_::_,h=>⟨h.1.2,relC_vals h.2⟩
 |[],_::_,h=>h.elim
 |_::_,[],h=>h.elim
theorem chown_five {k:Nat} {N:Mem} {x:AV} {c:Ch} (h:ChOwn k N x c):∃cs,x=.agg cs∧cs.length=5:=by
 obtain⟨y,rfl,_⟩:=h
 exact⟨_,rfl,rfl⟩
theorem sortC_none {l:List Ch} (h:mapC l=[]):sortC l=[]:=by
 have:=sorted_map (l:=l) (s:=[]) (by rw[h];exact List.Perm.refl _) List.Pairwise.nil
 exact this.symm
theorem out_view {k:Nat} {N:Mem} {id cap:Nat} {cells xs:List AV} {m:List Ch} (hM:N.get id=some (.cells cells)) (hx:cells.take (xs.length*5)=flat xs) (hc:xs.length≤cap) (hl:cells.length=cap*5) (h:All2 (ChOwn k N) xs m):View 0 N (.osl id 0 xs.length cap 5) (chA m .none):=by
 refine View.row (Nat.zero_le _) hM hx (fun x hx=>?_) hc (by omega) ?_
 ·obtain⟨_,_,h2⟩:=all2_mem h hx
  obtain⟨cs,rfl,h3⟩:=chown_five h2
  exact h3
 ·have:∀{xs:List AV} {m:List Ch},All2 (ChOwn k N) xs m→All2 (ViewC 0 N) xs (m.map Ch.av):=by
   intro xs
   induction xs with
   |nil=>intro m h;cases m with
    |nil=>trivial
    |cons _ _=>exact h.elim
   |cons x xs ih=>intro m h;cases m with
    |nil=>exact h.elim
    |cons c m=>exact⟨h.1.view,ih h.2⟩
  exact this h
theorem flat5 {k:Nat} {N:Mem} {m:List Ch} {xs:List AV} (h:All2 (ChOwn k N) xs m):(flat xs).length=xs.length*5:=by
 refine flat_length fun x hx=>?_
 obtain⟨_,_,h2⟩:=all2_mem h hx
 obtain⟨cs,rfl,h3⟩:=chown_five h2
 exact h3
theorem nodup_lt:∀(n:Nat) (l:List Nat),l.Nodup→(∀j,j∈l→j < n)→l.length≤n
 |0,l,_,h=>by
  cases l with
  |nil=>exact Nat.le_refl _
  |cons a r=>exact absurd (h a (by simp)) (Nat.not_lt_zero _)
 |n+1,l,hnd,h=>by
  by_cases hm:n∈l
  ·have h1:=nodup_lt n (l.erase n) (hnd.erase n) (fun j hj=>by
    have h2:=(hnd.mem_erase_iff).1 hj
    have:=h j h2.2
    omega)
   rw[List.length_erase_of_mem hm] at h1
   omega
  ·have h1:=nodup_lt n l hnd (fun j hj=>by
    have:=h j hj
    have:j≠n:=fun e=>hm (e ▸ hj)
    omega)
   omega
theorem nodup_snoc {l:List Nat} {j:Nat} (h:l.Nodup) (hj:j∉l):(l++[j]).Nodup:=by
 rw[List.nodup_append]
 refine⟨h,by simp,?_⟩
 intro a ha b hb
 simp at hb
 subst hb
 exact fun e=>hj (e ▸ ha)
theorem flat_app1 (a b:List AV):flat (a++b)=flat a++flat b:=by simp[flat]
theorem upd_len {α:Type}:∀(m:List (Bytes×α)) (k:Bytes) (x:α),(upd m k x).length≤m.length+1
 |[],_,_=>Nat.le_refl _
 |(k',y)::r,k,x=>by
  unfold Go.Ab.upd
  split
  ·simp
  ·have:=upd_len r k x
   simp only[List.length_cons]
   omega
theorem mapC_len (l:List Ch):(mapC l).length≤l.length:=by
 induction l using snoc_ind with
 |h0=>exact Nat.le_refl _
 |h1 l d ih=>
  rw[mapC_snoc]
  have:=upd_len (mapC l) d.path d
  simp
  omega
theorem step_get {N:Mem} {it j:Nat} {I Z C:AObj} (h:j < N.next):(((N.set it I).push Z).set N.next C).get j=if j=it then some I else N.get j:=by
 rw[Mem.get_set,if_neg (by omega),Mem.get_push,if_neg (by show ¬j=N.next;omega),Mem.get_set]
theorem step_get1 {N:Mem} {it j:Nat} {I Z C L:AObj} (h:j < N.next):((((N.set it I).push Z).set N.next C).push L).get j=if j=it then some I else N.get j:=by
 rw[Mem.get_push,if_neg (by show ¬j=N.next+1;omega),step_get h]
theorem step_get2 {N:Mem} {it j id:Nat} {I Z C L:AObj} (h:j < N.next) (hne:j≠id):(((((N.set it I).push Z).set N.next C).drop id).push L).get j=if j=it then some I else N.get j:=by
 rw[Mem.get_push,if_neg (by show ¬j=N.next+1;omega),Mem.get_drop,if_neg hne,step_get h]
set_option maxRecDepth 100000 in
set_option maxHeartbeats 8000000 in
theorem bNorm0_ok (l:List Ch) (tg:Tag) (hl:l.length < 10000) (hs:∀c,c∈l→shortCh c):ACalls Tryz.prog 16 [chA l tg] ⟨0,[]⟩ (fun e N=>NormR l e N):=by
 refine acalls_of tabOK Tryz.func16 rfl (by decide) (by simp[Tryz.f16]) ?_
 have la:=len_map Ch.av l
 have ko:=odd_ok l tg (by omega) hs
 unfold chA at ko
 unfold chA
 cases ho:(l.any fun c=>!mayB c)
 ·rw[ho] at ko
  repeat' (first|refine DW_A tabs rfl ?_|refine DW_nil ?_|refine W_A rfl ?_|refine DW_C rfl ko ?_|refine DW_row tabOK rfl ?_)
  refine DW_mmake rfl rfl ?_
  repeat' (first|refine DW_VI tabs rfl la ?_|refine DW_A tabs rfl ?_|refine DW_nil ?_|refine W_A rfl ?_|refine DW_row tabOK rfl ?_)
  refine W_count l.length (fun i f N=>mapI l i N∧f=nmF1 l tg i) (Nat.zero_le _) ⟨⟨Nat.zero_lt_succ _,[],⟨[],rfl,rfl⟩,trivial⟩,rfl⟩ (Joint.le ?_ (Mem.le_refl _)) ?_
  ·unfold nmF1 chA
   repeat (refine AF.le_cons rfl ?_)
   exact AF.le_nil rfl
  rintro i f N hi ⟨⟨hN,ml,hM,hR⟩,rfl⟩
  unfold nmF1 chA
  by_cases g1:i < l.length
  ·have d1:decide ((i:Int) < (l.length:Int))=true:=decide_eq_true (by omega)
   have hy:l[i]? =some l[i]:=List.getElem?_eq_getElem g1
   have hm:=List.getElem_mem g1
   have fi:=wrap_succ (i:=i) (by omega)
   have ht:=take_succ hy
   generalize l[i]=c at hy hm ht
   have hlc:c.meta_.ch.length < 1000000:=(hs c hm).2
   repeat' (first|refine DW_VB tabs rfl d1 ?_|refine DW_VI tabs rfl (by first|exact fi|exact la) ?_|refine DW_A tabs rfl ?_|refine DW_nil ?_|refine W_A rfl ?_|refine DW_ix tabOK rfl (ixN hy) ?_|refine DW_row tabOK rfl ?_)
   refine DW_stM tabOK get_push_self rfl ?_
   repeat' (first|refine DW_A tabs rfl ?_|refine DW_nil ?_|refine W_A rfl ?_|refine DW_row tabOK rfl ?_)
   refine DW_fdM tabOK get_set_self rfl ?_
   refine DW_fdM tabOK get_set_self rfl ?_
   refine DW_ldM tabOK get_set_self rfl ?_
   repeat' (first|refine DW_A tabs rfl ?_|refine DW_nil ?_|refine W_A rfl ?_|refine DW_row tabOK rfl ?_)
   refine DW_CM rfl rfl (cloneI_ok c.meta_.ch hlc _ (Nat.zero_lt_succ _)) ?_ (fun u M' ⟨_,e,_⟩=>by cases e)
   rintro u N2 ⟨x,e,hk,hx,hnew⟩
   cases e
   have hb:N2.get N.next=some (.cells c.cells):=(hk.2 _ (Nat.lt_succ_self _)).trans get_set_self
   have h0:N2.get 0=N.get 0:=(hk.2 0 (Nat.zero_lt_succ _)).trans (by rw[Mem.get_set,if_neg (by omega)];exact get_push_ne (by omega))
   have hkN:Kept N.next N N2:=by
    intro j hj0 hj
    refine (hk.2 j (Nat.lt_succ_of_lt hj)).trans ?_
    rw[Mem.get_set,if_neg (by omega)]
    exact get_push_ne (by omega)
   have hn2:N.next < N2.next:=hk.1
   have hM2:∀o,IsMap (N2.set N.next o) 0 ml:=fun o=>mapSame hM (by rw[Mem.get_set,if_neg (by omega),h0])
   have fin:∀(o o':AObj),Kept N.next N ((N2.set N.next o).set 0 o'):=fun o o'=>(hkN.trans (Kept.set (.inr (Nat.le_refl _)))).trans (Kept.set (.inl rfl))
   have hxo:∀(o o':AObj),OwnI N2.next ((N2.set N.next o).set 0 o') u c.meta_.ch:=by
    intro o o'
    rcases hx with h|⟨id,cap,cells,h1,h2,h3,h4,h5⟩
    ·exact .inl h
    ·have he:id≠N.next:=by
      have:N.next+1≤id:=hnew _ _ _ _ _ h1
      omega
     exact .inr ⟨id,cap,cells,h1,h2,h3,by rw[Mem.get_set,if_neg (by omega),Mem.get_set,if_neg he];exact h4,h5⟩
   have hRn:∀(o o':AObj),RelC N2.next ((N2.set N.next o).set 0 o') ml (mapC (l.take i)):=fun o o'=>hR.kept (fin o o') (Nat.le_of_lt hn2)
   rcases hx with ⟨_,sz,tx,rfl⟩|⟨id,cap,cells,rfl,_⟩
   all_goals
    repeat' (first|refine DW_A tabs rfl ?_|refine DW_nil ?_|refine W_A rfl ?_|refine DW_row tabOK rfl ?_)
    refine DW_fdM tabOK hb rfl ?_
    refine DW_fdM tabOK hb rfl ?_
    refine DW_stM tabOK hb rfl ?_
    repeat' (first|refine DW_A tabs rfl ?_|refine DW_nil ?_|refine W_A rfl ?_|refine DW_row tabOK rfl ?_)
    refine DW_fdM tabOK get_set_self rfl ?_
    refine DW_ldM tabOK get_set_self rfl ?_
    refine DW_ldM tabOK get_set_self rfl ?_
    refine DW_mupd rfl rfl rfl (hM2 _) ?_
    intro ps' hps'
    repeat' (first|refine DW_VI tabs rfl fi ?_|refine DW_A tabs rfl ?_|refine DW_nil ?_|refine W_A rfl ?_|refine DW_row tabOK rfl ?_)
    refine⟨g1,_,_,⟨⟨(by exact Nat.lt_of_le_of_lt (Nat.zero_le _) hn2),_,⟨ps',hps',get_set_self⟩,?_⟩,rfl⟩,Joint.le ?_ (Mem.le_refl _)⟩
    ·rw[ht,mapC_snoc]
     exact RelC.upd ⟨_,rfl,hxo _ _⟩ (hRn _ _)
    ·skip
     repeat (refine AF.le_cons rfl ?_)
     exact AF.le_nil rfl
  ·have d1:decide ((i:Int) < (l.length:Int))=false:=decide_eq_false (by omega)
   obtain rfl:i=l.length:=by omega
   rw[List.take_length] at hR
   repeat' (first|refine DW_VB tabs rfl d1 ?_|refine DW_A tabs rfl ?_|refine DW_nil ?_|refine W_A rfl ?_|refine DW_row tabOK rfl ?_)
   refine DW_mrng rfl rfl hM ?_
   intro b
   repeat' (first|refine DW_A tabs rfl ?_|refine DW_nil ?_|refine W_A rfl ?_|refine DW_row tabOK rfl ?_)
   refine W_loop (fun k f N'=>∃x,seenI ml N.next x k N'∧RelC N.next N' ml (mapC l)∧f=nmF2 N.next x) (k:=ml.length) ⟨.sl 0 [] .full,⟨[],List.nodup_nil,(fun j hj=>by cases hj),rfl,mapSame hM (by rw[Mem.get_push,if_neg (by omega)]),⟨b,get_push_self⟩,Nat.lt_succ_self _,.inl ⟨rfl,rfl⟩⟩,hR.kept (Kept.push (Nat.le_refl _)) (Nat.le_refl _),rfl⟩ (Joint.le ?_ (Mem.le_refl _)) ?_
   ·unfold nmF2
    repeat (refine AF.le_cons rfl ?_)
    exact AF.le_nil rfl
   have hit:=hN
   clear hM hR
   generalize N.next=it at hit ⊢
   rintro k f N' ⟨x,⟨seen,hnd,hlt,hk,hM',hI',hitn,hO⟩,hR',rfl⟩
   unfold nmF2
   repeat' (first|refine DW_A tabs rfl ?_|refine DW_nil ?_|refine W_A rfl ?_|refine DW_row tabOK rfl ?_)
   refine DW_mnext rfl hI' hM' ?_ ?_
   ·intro hall
    have hin:∀j,j∈seen↔j < ml.length:=fun j=>⟨hlt j,fun h=>by simpa using hall j h⟩
    have hperm:=vals_perm hnd hin
    have hlen:seen.length=ml.length:=by
     have:=hperm.length_eq
     rw[valsAt_len,List.length_map] at this
     exact this
    have heven:∀c,c∈l→mayB c=true:=fun c hc=>by
     rw[List.any_eq_false] at ho
     have:=ho c hc
     simpa using this
    have hsl:=sortC_len l
    have hsS:∀c,c∈sortC l→shortCh c:=fun c hc=>hs c (sortC_mem hc)
    have kb:=bIs_ok (sortC l) .none (by omega) hsS
    rcases hO with ⟨h1,rfl⟩|⟨hne,id,cap,cells,rfl,h2,h3,h4,h5,h6,h7⟩
    ·have hs0:seen=[]:=by
      have:=valsAt_len ml seen
      rw[h1] at this
      exact List.eq_nil_of_length_eq_zero this.symm
     have hm0:mapC l=[]:=by
      have:=hR'.len
      rw[←hlen,hs0] at this
      exact List.eq_nil_of_length_eq_zero this.symm
     have e0:=sortC_none hm0
     rw[e0] at kb
     have kb2:=kb.sub (args:=[.sl 0 [] .full]) ⟨Sub.nil,trivial⟩
     have e:normC l=([],1):=by rw[normC_even heven,e0];rfl
     have ks:=sortFunc_none (P:=Tryz.prog) (g:=52) (sz:=0) (t:=.full) laysSortC ⟨_,_,Tryz.func51,rfl,by decide⟩
     repeat' (first|refine DW_A tabs rfl ?_|refine DW_nil ?_|refine W_A rfl ?_|refine DW_C rfl ks ?_|refine DW_C rfl kb2 ?_|refine DW_row tabOK rfl ?_)
     exact⟨rfl,_,rfl,.inl ⟨e,rfl⟩⟩
    ·obtain⟨m,hm1,hm2⟩:=All2.perm hperm (relC_vals hR')
     generalize valsAt ml seen=xs at*
     have hx4:xs.length < 10000:=by
      have a1:=hm2.len
      have a2:=hm1.length_eq
      rw[List.length_map] at a2
      have a3:=mapC_len l
      omega
     repeat' (first|refine DW_A tabs rfl ?_|refine DW_nil ?_|refine W_A rfl ?_|refine DW_row tabOK rfl ?_)
     refine DW_CM rfl rfl (sortFunc_ok laysSortC ⟨_,_,Tryz.func51,rfl,by decide⟩ (k:=5) (by decide) Tryz.isAgg39 Tryz.sizeOf39 (g:=52) ⟨_,_,Tryz.func52,rfl,by decide⟩ Lib.compareBytes swo_bl keyA (norm_cmp hm2) h4 h5 (fun x hx=>by obtain⟨_,_,h⟩:=all2_mem hm2 hx;exact chown_five h) hne (by omega) (by omega)) ?_ (fun u M' h=>by cases h.1)
     rintro u M' ⟨e,ys,q1,q2,rfl⟩
     cases e
     have hyl:=q1.length_eq
     have q3:=sorted_rows hm1 hm2 q1 q2
     have q4:All2 (ChOwn it (N'.set id (.cells (flat ys++cells.drop (xs.length*5))))) ys (sortC l):=q3.mono fun a b h=>h.kept (Kept.set (.inr (by omega))) (Nat.le_refl _)
     have f5:=flat5 q4
     have hT:(flat ys++cells.drop (xs.length*5)).take (ys.length*5)=flat ys:=by rw[←f5];simp
     have hL:(flat ys++cells.drop (xs.length*5)).length=cap*5:=by
      rw[List.length_append,List.length_drop,f5]
      omega
     have kview:=out_view (id:=id) (cap:=cap) get_set_self hT (by omega) hL q4
     have kbb:=kb.borrow scal_bool (M:=N'.set id (.cells (flat ys++cells.drop (xs.length*5)))) (args:=[.osl id 0 xs.length cap 5]) rfl (by
      intro i x y hx hy
      match i,hx,hy with
      |0,hx,hy=>
       cases hx
       cases hy
       rw[hyl] at kview
       exact kview
      |i+1,hx,hy=>simp at hx)
     cases hb:batchB (sortC l)
     ·rw[hb] at kbb
      have e:normC l=([],1):=by rw[normC_even heven,hb];rfl
      repeat' (first|refine DW_A tabs rfl ?_|refine DW_nil ?_|refine W_A rfl ?_|refine DW_CM rfl rfl (kbb) ?_ ?_|refine DW_row tabOK rfl ?_)
      rotate_left
      ·intro u M' h
       cases h.1
      rintro u M' ⟨e',rfl⟩
      cases e'
      repeat' (first|refine DW_A tabs rfl ?_|refine DW_nil ?_|refine W_A rfl ?_|refine DW_row tabOK rfl ?_)
      exact⟨rfl,_,rfl,.inl ⟨e,rfl⟩⟩
     ·rw[hb] at kbb
      have e:normC l=(sortC l,0):=by rw[normC_even heven,hb];rfl
      repeat' (first|refine DW_A tabs rfl ?_|refine DW_nil ?_|refine W_A rfl ?_|refine DW_CM rfl rfl (kbb) ?_ ?_|refine DW_row tabOK rfl ?_)
      rotate_left
      ·intro u M' h
       cases h.1
      rintro u M' ⟨e',rfl⟩
      cases e'
      repeat' (first|refine DW_A tabs rfl ?_|refine DW_nil ?_|refine W_A rfl ?_|refine DW_row tabOK rfl ?_)
      refine⟨rfl,_,rfl,.inr ⟨id,cap,it,_,ys,e,?_,hit,by omega,h3,get_set_self,hT,by omega,hL,q4⟩⟩
      rw[hyl]
      rfl
   ·intro b' j kk v hj hns
    have hjl:j < ml.length:=(List.getElem?_eq_some_iff.1 hj).1
    have hjs:j∉seen:=by simpa using hns
    obtain⟨q,hq⟩:∃q,(mapC l)[j]? =some q:=⟨_,List.getElem?_eq_getElem (by rw[←hR'.len];exact hjl)⟩
    obtain⟨_,y,rfl,hy⟩:=hR'.get hj hq
    have hnd2:=nodup_snoc hnd hjs
    have hlt2:∀i,i∈seen++[j]→i < ml.length:=fun i hi=>by
     rcases List.mem_append.1 hi with h|h
     ·exact hlt i h
     ·simp at h
      omega
    have hln:=nodup_lt ml.length _ hnd2 hlt2
    rw[List.length_append] at hln
    have hln2:seen.length+1≤ml.length:=hln
    obtain⟨k,rfl⟩:∃k',k=k'+1:=⟨k - 1,by omega⟩
    have hk2:k+(seen++[j]).length=ml.length:=by simp;omega
    have hv:valsAt ml (seen++[j])=valsAt ml seen++[.agg [.str q.2.path,.bool q.2.gone,.int .i64 q.2.meta_.size,.int .i64 q.2.meta_.mode,y]]:=by simp[valsAt,hj]
    have hse:(seen++[j]).toArray=seen.toArray.push j:=by simp
    rcases hy with ⟨_,sz,tx,rfl⟩|⟨yd,yc,ys,rfl,_⟩
    all_goals
     repeat' (first|refine DW_A tabs rfl ?_|refine DW_nil ?_|refine W_A rfl ?_|refine DW_row tabOK rfl ?_)
     refine DW_ment rfl ⟨b',get_set_self⟩ (mapSame hM' (by rw[Mem.get_set,if_neg (by omega)])) hj ?_
     repeat' (first|refine DW_A tabs rfl ?_|refine DW_nil ?_|refine W_A rfl ?_|refine DW_row tabOK rfl ?_)
     refine DW_stM tabOK get_push_self rfl ?_
     rcases hO with ⟨h1,rfl⟩|⟨hne,id,cap,cells,rfl,h2,h3,h4,h5,h6,h7⟩
     ·repeat' (first|refine DW_A tabs rfl ?_|refine DW_nil ?_|refine W_A rfl ?_|refine DW_row tabOK rfl ?_)
      refine DW_ldM tabOK get_set_self rfl ?_
      repeat' (first|refine DW_A tabs rfl ?_|refine DW_nil ?_|refine W_A rfl ?_|refine DW_row tabOK rfl ?_)
      refine DW_napp tabOK rfl rfl rfl rfl rfl rfl rfl rfl rfl rfl rfl (.inr rfl) rfl rfl (by simp) (by simp) (by simp) ?_
      intro cap' l' g1 g2 g3
      repeat' (first|refine DW_A tabs rfl ?_|refine DW_nil ?_|refine W_A rfl ?_|refine DW_row tabOK rfl ?_)
      refine⟨k,nmF2 it _,_,Nat.lt_succ_self _,⟨_,⟨seen++[j],hnd2,hlt2,hk2,mapSame hM' ((step_get1 (by omega)).trans (if_neg (by omega))),⟨b',(step_get1 hitn).trans (by rw[if_pos rfl,hse])⟩,?_,.inr ⟨?_,_,cap',l',rfl,?_,?_,get_push_self,?_,?_,?_⟩⟩,hR'.kept (fun i h0 h1=>(step_get1 (by omega)).trans (if_neg (by omega))) (Nat.le_refl _),rfl⟩,Joint.le ?_ (Mem.le_refl _)⟩
      ·show it < N'.next+1+1
       omega
      ·rw[hv]
       simp
      ·show it+1≤N'.next+1
       omega
      ·show N'.next+1 < N'.next+1+1
       omega
      ·rw[hv,h1]
       exact g3
      ·rw[hv,h1]
       exact g1
      ·exact g2
      ·have hn:(valsAt ml (seen++[j])).length=0+1:=by rw[hv,h1];rfl
       unfold nmF2
       rw[hn]
       repeat (refine AF.le_cons rfl ?_)
       exact AF.le_nil rfl
     ·have hvl:=valsAt_len ml seen
      have hml:=hR'.len
      have hmc:=mapC_len l
      repeat' (first|refine DW_A tabs rfl ?_|refine DW_nil ?_|refine W_A rfl ?_|refine DW_row tabOK rfl ?_)
      refine DW_ldM tabOK get_set_self rfl ?_
      repeat' (first|refine DW_A tabs rfl ?_|refine DW_nil ?_|refine W_A rfl ?_|refine DW_row tabOK rfl ?_)
      refine DW_oapp tabOK rfl rfl rfl rfl rfl (l:=cells) rfl ((step_get (by omega)).trans ((if_neg (by omega)).trans h4)) rfl rfl rfl rfl rfl rfl rfl rfl (by omega) (by omega) (by simp;omega) (by simp;omega) ?_
      intro cap' l' g1 g2 g3
      repeat' (first|refine DW_A tabs rfl ?_|refine DW_nil ?_|refine W_A rfl ?_|refine DW_row tabOK rfl ?_)
      refine⟨k,nmF2 it _,_,Nat.lt_succ_self _,⟨_,⟨seen++[j],hnd2,hlt2,hk2,mapSame hM' ((step_get2 (by omega) (by omega)).trans (if_neg (by omega))),⟨b',(step_get2 hitn (by omega)).trans (by rw[if_pos rfl,hse])⟩,?_,.inr ⟨?_,_,cap',l',rfl,?_,?_,get_push_self,?_,?_,?_⟩⟩,hR'.kept (fun i h0 h1=>(step_get2 (by omega) (by omega)).trans (if_neg (by omega))) (Nat.le_refl _),rfl⟩,Joint.le ?_ (Mem.le_refl _)⟩
      ·show it < N'.next+1+1
       omega
      ·rw[hv]
       simp
      ·show it+1≤N'.next+1
       omega
      ·show N'.next+1 < N'.next+1+1
       omega
      ·rw[h5] at g3
       rw[hv,List.length_append,flat_app1]
       exact g3
      ·rw[hv,List.length_append]
       exact g1
      ·exact g2
      ·have hn:(valsAt ml (seen++[j])).length=(valsAt ml seen).length+1:=by rw[hv,List.length_append];rfl
       unfold nmF2
       rw[hn]
       repeat (refine AF.le_cons rfl ?_)
       exact AF.le_nil rfl
 ·rw[ho] at ko
  have e:normC l=([],1):=by
   unfold normC
   rw[if_pos ho]
  repeat' (first|refine DW_A tabs rfl ?_|refine DW_nil ?_|refine W_A rfl ?_|refine DW_C rfl ko ?_|refine DW_row tabOK rfl ?_)
  exact⟨rfl,_,rfl,.inl ⟨e,rfl⟩⟩
end Go.Proofs.YtbcaejhhgkcgpaaGreatDoor
