/- Parts of the proof, one behind the other. No further condition. -/
import Derived.Test.YthnhbmlefiafaaaGreatDoorK14
import Derived.Shelf.SlSortCmp.NoneTotal
import Derived.Shelf.Small.Strs
import Derived.Test.YthnhbmlefiafaaaGreatDoorProg
import Derived.KernelRfl
set_option linter.unusedVariables false
set_option linter.unusedSimpArgs false
set_option maxRecDepth 100000
set_option maxHeartbeats 8000000
namespace Go.Ab
open Go.Shelf Go.RowKit Go.Proofs Go.Sort
theorem x3 {n:Nat} {d d':Array (Fin n)} (hs:d'.size=d.size) (h:(d'.extract 0 d.size).toList.Perm (d.extract 0 d.size).toList):d'.toList.Perm d.toList:=by
 have e1:d.extract 0 d.size=d:=by simp
 have e2:d'.extract 0 d.size=d':=by rw[←hs];simp
 rwa [e1,e2] at h
theorem N8 {α:Type} [Inhabited α] (enc:α→List Value) (k:Nat) (w:World) (b m:Nat) (dk:Array α) (os:Array Obj) {c:Array Value} {ty:TypeId} (hb:w.heap[b]? =some (.cells c ty (0,0))):
  w6 w b (w.putObj b (.cells (putCells id 0 (flatK enc k dk) c) ty (0,0)))∧Below w.heap.size (w.putObj b (.cells (putCells id 0 (flatK enc k dk) c) ty (0,0))) (sortWorldK enc k w b 0 m dk os):=by
 have hlt:b < w.heap.size:=(Array.getElem?_eq_some_iff.1 hb).1
 refine⟨DQ w b _,?_⟩
 have hh:(mapBlock (Sort.ahead w m) b (putCells id 0 (flatK enc k dk))).heap=(w.putObj b (.cells (putCells id 0 (flatK enc k dk) c) ty (0,0))).heap:=by
  apply Array.ext_getElem?
  intro j
  show (w.heap.modify b (onCells (putCells id 0 (flatK enc k dk))))[j]? =(w.heap.setIfInBounds b _)[j]?
  rw[Array.getElem?_modify]
  by_cases hj:b=j
  ·subst hj
   have hq:w.heap[b]=.cells c ty (0,0):=(Array.getElem?_eq_some_iff.1 hb).2
   simp[onCells,hlt,hq]
  ·simp[hj]
 refine⟨rfl,rfl,rfl,?_,?_⟩
 ·show _≤((mapBlock (Sort.ahead w m) b (putCells id 0 (flatK enc k dk))).heap++os).size
  rw[hh,Array.size_append]
  omega
 ·intro j hj
  show ((mapBlock (Sort.ahead w m) b (putCells id 0 (flatK enc k dk))).heap++os)[j]? =_
  rw[hh,Array.getElem?_append_left (by simpa using hj)]
def a4c {κ:Type} (P:Program) (g:FuncId) (cf:κ→κ→Int) (key:AV→κ) (xs:List AV):Prop:=
 ∀(μ:Mu) (F:cO) (w:World) (x y:AV) (c1 c2:Array Value),x∈xs→y∈xs→bR μ F w x (.agg c1)→bR μ F w y (.agg c2)→
  ∀W,Calls P g #[.agg c1,.agg c2] W fun e w'=>e=.returned (.int .i64 (cf (key x) (key y)))∧∃q os',w'=grow (W.drewN q) os'
theorem K4 {P:Program} {ρ:Ren} (L:SlLaysF0.n6 P ρ) (he:jU P (ρ.f 6)) {k:Nat} (hk0:0 < k) (aE:∀w,(isAgg (ρ.t 24)).run P w=.ok true w) (zE:∀w,(Go.sizeOf (ρ.t 24)).run P w=.ok k w) {g:FuncId} (hge:jU P g)
  {κ:Type} (cf:κ→κ→Int) (hO:SWO (ltOf cf)) (key:AV→κ) {M:aI} {id cap:Nat} {l xs:List AV} (hcmp:a4c P g cf key xs) (hM:M.get id=some (.cells l)) (hx:l.take (xs.length*k)=b9 xs) (hs:∀x,x∈xs→∃cs,x=.agg cs∧cs.length=k)
  (hne:xs≠[]) (hlen:xs.length*k≤l.length) (hsz:xs.length < 4611686018427387904):
  aS P (ρ.f 6) [.osl id 0 xs.length cap k,.fn (.func g) [] []] M fun e N=>e=.ret (.tup [])∧∃ys:List AV,ys.Perm xs∧(ys.Pairwise fun a b=>¬cf (key b) (key a) < 0)∧N=M.set id (.cells (b9 ys++l.drop (xs.length*k))):=by
 refine⟨he,fun μ F w vs hg hvs=>?_⟩
 obtain⟨b,c,ty,e1,e2,e3,e4,e5⟩:=hg.obj id l hM
 have hpos:0 < xs.length:=List.length_pos_iff.2 hne
 have hcs:∀x,x∈xs→x.cells.length=k:=by
  intro x hx
  obtain⟨cs,rfl,h⟩:=hs x hx
  exact h
 obtain⟨hvl,hvr⟩:=hvs
 match vs,hvl with
 |⟨[v1,v2]⟩,_=>
  have r1:=hvr 0 _ v1 rfl rfl
  have r2:=hvr 1 _ v2 rfl rfl
  have hv1:v1=.slice (some ⟨b,0,none⟩) xs.length cap:=by
   cases r1 with
   |osl _ _ _ _ _ _ h1 h2 hv=>exact hv b e1
  obtain⟨c1,c2,hv2,hz1,hz2,_,_⟩:=r2.fn_inv
  have hc1:c1=#[]:=Array.eq_empty_of_size_eq_zero (by simpa using hz1)
  have hc2:c2=#[]:=Array.eq_empty_of_size_eq_zero (by simpa using hz2)
  subst hc1
  subst hc2
  subst hv1
  subst hv2
  generalize hn:xs.length=n at*
  haveI:Inhabited (Fin n):=⟨⟨0,hpos⟩⟩
  let enc:Fin n→List Value:=fun i=>(List.range k).map fun j=>c.getD (i.val*k+j) undef
  have henc:∀(i:Fin n) (j:Nat),j < k→(enc i)[j]? =some (c.getD (i.val*k+j) undef):=by
   intro i j hj
   simp[enc,hj]
  have hbnd:∀(i:Fin n) (j:Nat),j < k→i.val*k+j < c.size:=by
   intro i j hj
   have h1:(i.val+1)*k≤n*k:=Nat.mul_le_mul_right k i.isLt
   rw[Nat.add_mul,Nat.one_mul] at h1
   omega
  have hgetD:∀(p:Nat),p < c.size→c[p]? =some (c.getD p undef):=by
   intro p hp
   simp[Array.getD_eq_getD_getElem?,Array.getElem?_eq_getElem hp]
  have hk:∀x,(enc x).length=k:=fun x=>by simp[enc]
  have h1:∀x,∀v∈enc x,v.oneCell'=true:=by
   intro x v hv
   simp only[enc,List.mem_map,List.mem_range] at hv
   obtain⟨j,hj,rfl⟩:=hv
   exact e4 _ _ (hgetD _ (hbnd x j hj))
  have hel:∀(i:Fin n),∃x,xs[i.val]? =some x:=fun i=>⟨_,List.getElem?_eq_getElem (by omega)⟩
  have hrep:∀(i:Fin n) (x:AV),xs[i.val]? =some x→bR μ F w x (.agg (enc i).toArray):=by
   intro i x hxi
   obtain⟨cs,rfl,hcl⟩:=hs x (List.mem_of_getElem? hxi)
   refine .agg cs _ (by simp[hk,hcl]) (fun j y u hy hu=>?_) (fun j u hu=>h1 i u (List.mem_of_getElem? (by simpa using hu)))
   have hj:j < k:=by rw[←hcl];exact (List.getElem?_eq_some_iff.1 hy).1
   have hu2:u=c.getD (i.val*k+j) undef:=by
    have:=henc i j hj
    rw[List.getElem?_toArray,this] at hu
    exact (Option.some.inj hu).symm
   subst hu2
   have hfl:(b9 xs)[i.val*k+j]? =some y:=oD hcs hxi hy
   have hly:l[i.val*k+j]? =some y:=by
    rw[←hx] at hfl
    rw[List.getElem?_take] at hfl
    split at hfl
    ·exact hfl
    ·cases hfl
   exact e5 _ y _ hly (hgetD _ (hbnd i j hj))
  let sT:Fin n→κ:=fun i=>key ((xs[i.val]?).getD .top)
  let cfI:Fin n→Fin n→Int:=fun i j=>cf (sT i) (sT j)
  have hOI:SWO (ltOf cfI):=⟨fun x=>hO.irrefl _,fun x y z=>hO.trans _ _ _,fun x y z=>hO.ntrans _ _ _⟩
  let d:Array (Fin n):=(List.finRange n).toArray
  have hds:d.size=n:=by simp[d]
  have hdi:∀t,t < n→(d[t]!).val=t:=by
   intro t ht
   have:d[t]! =(List.finRange n)[t]'(by simpa using ht):=by
    rw[getElem!_pos d t (by rw[hds];exact ht)]
    simp[d]
   rw[this]
   simp
  have hH:HoldsK enc k w b 0 d:=by
   intro j hj
   rw[size_flatK,hds] at hj
   have hjk:j/k < n:=Nat.div_lt_of_lt_mul (by rwa [Nat.mul_comm] at hj)
   have hjm:j%k < k:=Nat.mod_lt _ hk0
   have hidx:j/k*k+j%k=j:=by rw[Nat.mul_comm];exact Nat.div_add_mod j k
   rw[get_flatK enc k d j (by rw[hds];exact hj)]
   have hv:(enc d[j/k]!)[j%k]! =c.getD j undef:=by
    have:=henc (d[j/k]!) (j%k) hjm
    rw[hdi _ hjk,hidx] at this
    rw[List.getElem!_eq_getElem?_getD,this]
    rfl
   have hjc:j < c.size:=by omega
   refine⟨?_,?_⟩
   ·rw[cR e2,hv,Nat.zero_add]
    exact hgetD j hjc
   ·simp[World.frozen?,e2]
  have hblk:b < w.heap.size:=(Array.getElem?_eq_some_iff.1 e2).1
  have hC:CmpLays P g #[] enc k cfI b 0 d.size w:=by
   intro m os dk hdk x y
   obtain⟨X,hX⟩:=hel x
   obtain⟨Y,hY⟩:=hel y
   have:=hcmp μ F w X Y _ _ (List.mem_of_getElem? hX) (List.mem_of_getElem? hY) (hrep x X hX) (hrep y Y hY) (sortWorldK enc k w b 0 m dk os)
   have e:cfI x y=cf (key X) (key Y):=by simp[cfI,sT,hX,hY]
   rw[e]
   simpa using this
  have hcall:=AnyQ.slices_SortFunc (P:=P) (ρ:=ρ) L k aE zE enc hk h1 cfI hOI g #[] b 0 cap d w (fun args w=>mB hge args w) hC hH hblk (by rw[hds];exact hsz)
  rw[hds] at hcall
  refine hcall.mono ?_
  rintro e w' ⟨rfl,d',m,os,⟨hp1,_,hp3⟩,hsort,rfl⟩
  have hds':d'.size=n:=by omega
  have hperm:d'.toList.Perm d.toList:=x3 hp1 (by rw[hds];exact hp3)
  let ys:List AV:=d'.toList.map fun i=>(xs[i.val]?).getD .top
  have hdx:d.toList.map (fun i:Fin n=>(xs[i.val]?).getD .top)=xs:=by
   apply List.ext_getElem?
   intro t
   by_cases ht:t < n
   ·have:xs[t]? =some (xs[t]'(by omega)):=List.getElem?_eq_getElem (by omega)
    simp[d,List.getElem?_map,ht,this]
   ·rw[List.getElem?_eq_none (by simp[d];omega),List.getElem?_eq_none (by omega)]
  have hys:ys.Perm xs:=by
   have:=hperm.map (fun i:Fin n=>(xs[i.val]?).getD .top)
   rwa [hdx] at this
  obtain⟨hw1,hb1⟩:=N8 enc k w b m d' os e2
  have hyl:ys.length=n:=by simp[ys,hds']
  have hycs:∀y,y∈ys→y.cells.length=k:=fun y hy=>hcs y (hys.mem_iff.1 hy)
  have hyflat:(b9 ys).length=n*k:=by rw[cC hycs,hyl]
  have hd'i:∀t,t < n→d'.toList[t]? =some d'[t]! :=by
   intro t ht
   rw[Array.getElem?_toList,Array.getElem?_eq_getElem (by omega),getElem!_pos d' t (by omega)]
  have hyi:∀t,t < n→∃x,xs[(d'[t]!).val]? =some x∧ys[t]? =some x:=by
   intro t ht
   obtain⟨x,hxx⟩:=hel d'[t]!
   refine⟨x,hxx,?_⟩
   show (d'.toList.map fun i:Fin n=>(xs[i.val]?).getD .top)[t]? =some x
   rw[List.getElem?_map,hd'i t ht]
   simp[hxx]
  have hsz':(flatK enc k d').size=n*k:=by rw[size_flatK,hds']
  have hput:∀p,(putCells _root_.id 0 (flatK enc k d') c)[p]? =(c[p]?).map fun v=>if p < n*k then (flatK enc k d')[p]! else v:=by
   intro p
   simp[putCells,Array.getElem?_mapIdx,hsz']
  have hcell:∀p,p < n*k→(putCells _root_.id 0 (flatK enc k d') c)[p]? =some (c.getD ((d'[p/k]!).val*k+p%k) undef):=by
   intro p hp
   have hpk:p/k < n:=Nat.div_lt_of_lt_mul (by rwa [Nat.mul_comm] at hp)
   have hpm:p%k < k:=Nat.mod_lt _ hk0
   rw[hput,Array.getElem?_eq_getElem (by omega),Option.map_some,if_pos hp,get_flatK enc k d' p (by rw[hds'];exact hp)]
   have:=henc (d'[p/k]!) (p%k) hpm
   rw[List.getElem!_eq_getElem?_getD,this]
   rfl
  have hbig:∀p,¬p < n*k→(putCells _root_.id 0 (flatK enc k d') c)[p]? =c[p]? :=by
   intro p hp
   rw[hput]
   simp[hp]
  obtain⟨hev,hG⟩:=mK hg e1 e2 hw1 (l:=b9 ys++l.drop (n*k)) (c:=putCells _root_.id 0 (flatK enc k d') c) (World.putObj_heap_same hblk) (by simp[putCells]) (by simp[putCells,hyflat];omega) (by
   intro p v hv
   by_cases hp:p < n*k
   ·rw[hcell p hp] at hv
    cases hv
    have hpm:p%k < k:=Nat.mod_lt _ hk0
    exact e4 _ _ (hgetD _ (hbnd _ _ hpm))
   ·rw[hbig p hp] at hv
    exact e4 p v hv) (by
   intro p y v hy hv
   by_cases hp:p < n*k
   ·rw[hcell p hp] at hv
    cases hv
    rw[List.getElem?_append_left (by omega)] at hy
    have hpk:p/k < n:=Nat.div_lt_of_lt_mul (by rwa [Nat.mul_comm] at hp)
    have hpm:p%k < k:=Nat.mod_lt _ hk0
    have hidx:p/k*k+p%k=p:=by rw[Nat.mul_comm];exact Nat.div_add_mod p k
    obtain⟨x,hx1,hx2⟩:=hyi (p/k) hpk
    obtain⟨cs,rfl,hcl⟩:=hs x (List.mem_of_getElem? hx1)
    have hz:cs[p%k]? =some (cs[p%k]'(by omega)):=List.getElem?_eq_getElem (by omega)
    have hf:(b9 ys)[p/k*k+p%k]? =some (cs[p%k]'(by omega)):=oD hycs hx2 hz
    rw[hidx,hy] at hf
    cases hf
    obtain⟨c9,hc9,_,h3,_⟩:=(hrep _ _ hx1).agg_inv
    cases hc9
    exact h3 (p%k) _ _ hz (by rw[List.getElem?_toArray];exact henc _ _ hpm)
   ·rw[hbig p hp] at hv
    rw[List.getElem?_append_right (by omega),hyflat,List.getElem?_drop] at hy
    have e:n*k+(p - n*k)=p:=by omega
    rw[e] at hy
    exact e5 p y v hy hv)
  have hb2:Below w.heap.size (w.putObj b (.cells (putCells _root_.id 0 (flatK enc k d') c) ty (0,0))) (sortWorldK enc k w b 0 m d' os):=hb1
  have hb3:Below (w.putObj b (.cells (putCells _root_.id 0 (flatK enc k d') c) ty (0,0))).heap.size (w.putObj b (.cells (putCells _root_.id 0 (flatK enc k d') c) ty (0,0))) (sortWorldK enc k w b 0 m d' os):=by
   rw[World.putObj_size]
   exact hb2
  refine⟨μ,_,hev.trans (eB.of_below μ hb3),hG.below hb3,.tup [],.tup _ _ rfl (by intro i x v hx;simp at hx),rfl,ys,hys,?_,rfl⟩
  rw[List.pairwise_iff_getElem]
  intro i j hi hj hij
  have hj':j < n:=by omega
  obtain⟨x,hx1,hx2⟩:=hyi i (by omega)
  obtain⟨y,hy1,hy2⟩:=hyi j hj'
  have ex:ys[i]=x:=by
   have:=List.getElem?_eq_getElem hi
   rw[hx2] at this
   exact (Option.some.inj this).symm
  have ey:ys[j]=y:=by
   have:=List.getElem?_eq_getElem hj
   rw[hy2] at this
   exact (Option.some.inj this).symm
  rw[ex,ey]
  have h:=hsort i j (Nat.zero_le _) hij hj'
  have h2:cfI d'[j]! d'[i]! =cf (key y) (key x):=by simp[cfI,sT,hx1,hy1]
  unfold ltOf at h
  rw[h2] at h
  simpa using h
end Go.Ab
namespace Go.Ab
open Go.RowKit
theorem GM {P:Program} {w:World} {isS:Bool} {n m:Nat} {L:Option Value} {k1 k2:IntKind} {l h:Int} (hL:(L=none∧l=0)∨∃k,L=some (.int k l)) (h0:0≤l) (h1:l≤h) (h2:h≤m):
  (Instr.sliceBounds isS n m L (some (.int k1 h)) (some (.int k2 h))).run P w=.ok (l.toNat,h.toNat,h.toNat) w:=by
 have a1:0≤h:=by omega
 have a2:l≤((h.toNat:Nat):Int):=by omega
 have a3:h≤((h.toNat:Nat):Int):=by omega
 rcases hL with ⟨rfl,rfl⟩|⟨k,rfl⟩
 ·simp[Instr.sliceBounds,dM a1 h2,dM a1 a3]
 ·simp[Instr.sliceBounds,dM a1 h2,dM a1 a3,dM h0 a2]
theorem MS {P:Program} {τ:Tab} (hτ:TabOK P τ) {t e:TypeId} {ti ei:TI} (ht:aK τ t=some ti) (hk:ti.k=.slice e) (he:aK τ e=some ei) {X:Operand} {L:Option Operand} {Hh Mx:Operand} {k1 k2:IntKind} {ty:TypeId} {ρ:Operand→AV} {sz:Nat} {xs:List AV} {tg:eI} {l h:Int}
  (hX:ρ X=.sl sz xs tg) (hL:sB (L.map ρ) 0=some l) (hH:ρ Hh=.int k1 h) (hMx:ρ Mx=.int k2 h) (h0:0≤l) (h1:l≤h) (h2:h≤xs.length) (hsz:sz=ei.size):
  jY P (.slice t X L (some Hh) (some Mx)) ty ρ (.sl sz ((xs.take h.toNat).drop l.toNat) .none):=by
 refine b8 ?_
 intro μ F w ρc o ho hty hr
 have hx:=hr X (by simp[Op.operands])
 rw[hX] at hx
 generalize hv:ρc X=v at hx
 obtain⟨A,cap,ad,vals,rfl,hs,hcap,hA,hone,hcell,hrep,htag⟩:=hx.sl_inv
 obtain⟨ft,dt,zt,HT⟩:=TI.spec hτ ht
 obtain⟨fe,de,ze,HE⟩:=TI.spec hτ he
 have hf:=HT.fits
 rw[hk] at hf
 have hdd:dt=.slice e:=by
  cases dt<;>simp[TK.fits] at hf
  rw[hf]
 subst hdd
 have rH:=hr Hh (by simp[Op.operands])
 have rM:=hr Mx (by simp[Op.operands])
 rw[hH] at rH
 rw[hMx] at rM
 have eH:ρc Hh=.int k1 h:=by
  generalize ρc Hh=u at rH
  cases rH
  rfl
 have eM:ρc Mx=.int k2 h:=by
  generalize ρc Mx=u at rM
  cases rM
  rfl
 have hb:=GM (P:=P) (w:=w) (isS:=true) (n:=xs.length) (m:=cap) (k1:=k1) (k2:=k2) (iO (d:=0) hL fun x hx=>hr x (by simp[Op.operands,hx])) h0 h1 (by omega)
 obtain⟨ln,rfl⟩:=Int.eq_ofNat_of_zero_le h0
 obtain⟨hn,rfl⟩:=Int.eq_ofNat_of_zero_le (show 0≤h by omega)
 simp only[Int.toNat_natCast] at hb ⊢
 have hlen:((xs.take hn).drop ln).length=hn - ln:=by simp;omega
 have hget:∀(i:Nat) (x:AV),((xs.take hn).drop ln)[i]? =some x→xs[ln+i]? =some x:=by
  intro i x hx
  rw[List.getElem?_drop,List.getElem?_take] at hx
  split at hx
  ·exact hx
  ·cases hx
 refine⟨.slice (if hn=ln then A else A.map (·.add (ln*sz))) ((xs.take hn).drop ln).length (hn - ln),?_,?_⟩
 ·simp only[execOp,ho,hv,Instr.sliceAt,Sem.run_bind,run_underlying HT.und,Result.andThen_ok,Instr.slice,Option.map_some,eH,eM,hb,run_sizeOf w HE.info,HE.cellsOf,Sem.run_pure,hlen,hsz]
 ·have hsh:∀i j:Nat,ln*sz+(i*sz+j)=(ln+i)*sz+j:=fun i j=>by rw[Nat.add_mul,Nat.add_assoc]
  refine .sl _ _ _ _ _ ⟨ad.block,ad.off+ln*sz,none⟩ (fun p=>vals (ln*sz+p)) ?_ (by rw[hlen];omega) ?_ ?_ ?_ ?_ trivial
  ·intro x hx
   exact hs x (List.mem_of_mem_take (List.mem_of_mem_drop hx))
  ·intro h3
   rw[hlen] at h3
   obtain⟨h4,h5⟩:=hA (by omega)
   rw[if_neg (by omega),h4]
   refine⟨?_,rfl⟩
   obtain⟨bb,oo,ss⟩:=ad
   simp only at h5
   subst h5
   simp[Addr.add_lit]
  ·intro i x j c hx hj
   show (vals _).oneCell'=true
   rw[hsh]
   exact hone _ _ _ _ (hget i x hx) hj
  ·intro i x j c hx hj
   have:=hcell _ _ _ _ (hget i x hx) hj
   simp only
   rw[Nat.add_assoc,hsh]
   exact this
  ·intro i x j c hx hj
   show bR _ _ _ _ (vals _)
   rw[hsh]
   exact hrep _ _ _ _ (hget i x hx) hj
section
variable {P:Program} {τ:Tab} {ops:Array Oper} {cls:Nat→fZ} {Q:AX→AF→aI→Prop} {ds:List bH} {ls:List Nat} {i:Nat} {t:List (Nat×AV)} {M:aI}
def KV (τ:Tab) (ops:Array Oper) (ds:List bH) (i:Nat) (t:List (Nat×AV)):Option (Nat×Nat×List AV×Int×Int×Int):=
 match ops[i]? with
 |some o=>(match aV ops ⟨t,ds⟩ o,o.dst,o.op with
  |some true,some d,.slice ty X L (some H) (some Mx)=>(match AF.ev ⟨t,ds⟩ X,aK τ ty with
   |.sl sz xs tg,some ti=>(match ti.k with
    |.slice e=>(match aK τ e with
     |some ei=>(match decide (sz=ei.size),sB (L.map (AF.ev ⟨t,ds⟩)) 0,AF.ev ⟨t,ds⟩ H,AF.ev ⟨t,ds⟩ Mx with
      |true,some lo,.int _ hi,.int _ mx=>some (d,sz,xs,lo,hi,mx)
      |_,_,_,_=>none)
     |none=>none)
    |_=>none)
   |_,_=>none)
  |_,_,_=>none)
 |none=>none
theorem a19 (hτ:TabOK P τ) {d sz:Nat} {xs ys:List AV} {lo hi mx:Int} (hs:KV τ ops ds i t=some (d,sz,xs,lo,hi,mx)) (hx:0≤lo∧lo≤hi∧hi≤xs.length∧(xs.take hi.toNat).drop lo.toNat=ys) (hm:mx=hi) (h:DW P ops cls Q ds ls ((d,.sl sz ys .none)::t) M):DW P ops cls Q ds (i::ls) t M:=by
 obtain⟨h0,h1,h2,rfl⟩:=hx
 unfold KV at hs
 split at hs
 ·rename_i o hi'
  split at hs
  ·rename_i d' ty X L H Mx hw hd ho
   split at hs
   ·rename_i sz' xs' tg ti hX ht
    split at hs
    ·rename_i e hk
     split at hs
     ·rename_i ei he
      split at hs
      ·rename_i lo' k1 hi2 k2 mx2 hsz hL hH hMx
       cases hs
       subst hm
       exact fR hi' hw hd (by rw[ho];exact MS hτ ht hk he hX hL hH hMx h0 h1 h2 (of_decide_eq_true hsz)) h
      ·cases hs
     ·cases hs
    ·cases hs
   ·cases hs
  ·cases hs
 ·cases hs
end
end Go.Ab
namespace Go.Proofs.YthnhbmlefiafaaaGreatDoor
open Go.Ab
def a2s (k:Nat) (N:aI) (x:AV) (ch:List Int):Prop:=(ch=[]∧∃sz t,x=.sl sz [] t)∨
 ∃(id cap:Nat) (cells:List AV),x=.osl id 0 ch.length cap 1∧0 < id∧id < k∧N.get id=some (.cells cells)∧cells.take ch.length=(ch.map fun n=>AV.int .i64 n)∧ch.length≤cap∧cells.length=cap
def QH (k:Nat) (N:aI) (x:AV) (c:Ch):Prop:=∃y,x=.agg [.str c.path,.bool c.gone,.int .i64 c.meta_.size,.int .i64 c.meta_.mode,y]∧a2s k N y c.meta_.ch
def r6 (k:Nat) (N N':aI):Prop:=∀id,0 < id→id < k→N'.get id=N.get id
theorem r6.refl {k:Nat} {N:aI}:r6 k N N:=fun _ _ _=>rfl
theorem r6.trans {k:Nat} {a b c:aI} (h:r6 k a b) (g:r6 k b c):r6 k a c:=fun id h0 h1=>(g id h0 h1).trans (h id h0 h1)
theorem r6.push {k:Nat} {N:aI} {o:cT} (hk:k≤N.next):r6 k N (N.push o):=fun id _ h=>by rw[aI.get_push,if_neg (by omega)]
theorem r6.set {k:Nat} {N:aI} {id:Nat} {o:cT} (hi:id=0∨k≤id):r6 k N (N.set id o):=fun j h0 h1=>by rw[aI.get_set,if_neg (by omega)]
theorem r6.drop {k:Nat} {N:aI} {id:Nat} (hi:k≤id):r6 k N (N.drop id):=fun j h0 h1=>by rw[aI.get_drop,if_neg (by omega)]
def Q3 (N N':aI):Prop:=N.next≤N'.next∧∀id,id < N.next→N'.get id=N.get id
theorem Q3.refl (N:aI):Q3 N N:=⟨Nat.le_refl _,fun _ _=>rfl⟩
theorem Q3.push {N:aI} {o:cT}:Q3 N (N.push o):=⟨Nat.le_succ _,fun id h=>by rw[aI.get_push,if_neg (by omega)]⟩
theorem gV {M:aI} {o:cT}:(M.push o).get M.next=some o:=by rw[aI.get_push,if_pos rfl]
theorem cW {M:aI} {id:Nat} {o:cT}:(M.set id o).get id=some o:=by rw[aI.get_set,if_pos rfl]
theorem a2s.kept {k k':Nat} {N N':aI} {x:AV} {ch:List Int} (h:a2s k N x ch) (g:r6 k N N') (hk:k≤k'):a2s k' N' x ch:=by
 rcases h with h|⟨id,cap,cells,h1,h2,h3,h4,h5⟩
 ·exact .inl h
 ·exact .inr ⟨id,cap,cells,h1,h2,Nat.lt_of_lt_of_le h3 hk,(g id h2 h3).trans h4,h5⟩
theorem QH.kept {k k':Nat} {N N':aI} {x:AV} {c:Ch} (h:QH k N x c) (g:r6 k N N') (hk:k≤k'):QH k' N' x c:=by
 obtain⟨y,h1,h2⟩:=h
 exact⟨y,h1,h2.kept g hk⟩
def a6w (k:Nat) (N:aI) (ml:List (aG×AV)) (mc:List (aG×Ch)):Prop:=r9 (fun p q=>p.1=q.1∧QH k N p.2 q.2) ml mc
theorem a6w.kept {k k':Nat} {N N':aI} {ml:List (aG×AV)} {mc:List (aG×Ch)} (h:a6w k N ml mc) (g:r6 k N N') (hk:k≤k'):a6w k' N' ml mc:=h.mono fun a b ⟨h1,h2⟩=>⟨h1,h2.kept g hk⟩
end Go.Proofs.YthnhbmlefiafaaaGreatDoor
namespace Go.Ab
open Go.RowKit
section
variable {P:Program} {τ:Tab} {ops:Array Oper} {cls:Nat→fZ} {Q:AX→AF→aI→Prop} {ds:List bH} {ls:List Nat} {i:Nat} {t:List (Nat×AV)} {M:aI}
def ldO (τ:Tab) (ty:TypeId) (off:Nat) (l:List AV):Option AV:=
 match aK τ ty with
 |some ti=>if ti.agg=true then (if off+ti.size≤l.length then some (.agg ((l.drop off).take ti.size)) else none) else l[off]?
 |none=>none
def OP (τ:Tab) (ops:Array Oper) (cls:Nat→fZ) (ds:List bH) (i:Nat) (t:List (Nat×AV)) (l:List AV):Option (Nat×Nat×AV):=
 match ops[i]? with
 |some o=>
  match aV ops ⟨t,ds⟩ o,o.dst,qH (cls i),o.op with
  |some true,some d,true,.load ty x=>(match AF.ev ⟨t,ds⟩ x with
   |.ptr id off=>(match ldO τ ty off l with
    |some y=>(match y.force with|some z=>some (d,id,z)|none=>none)
    |none=>none)
   |_=>none)
  |_,_,_,_=>none
 |none=>none
theorem pE (hτ:TabOK P τ) {id:Nat} {l:List AV} (hM:M.get id=some (.cells l)) {d:Nat} {y:AV} (hs:OP τ ops cls ds i t l=some (d,id,y)) (h:DW P ops cls Q ds ls ((d,y)::t) M):DW P ops cls Q ds (i::ls) t M:=by
 unfold OP at hs
 split at hs
 ·rename_i o hi
  split at hs
  ·rename_i d' ty x hw hd hc ho
   split at hs
   ·rename_i id' off hx
    split at hs
    ·rename_i y' hl
     split at hs
     ·rename_i z hz
      cases hs
      refine kY hi hw hd hc ?_ h
      rw[ho]
      refine J8 hτ ?_
      rw[hx]
      unfold eS
      simp only[hM]
      rw[←AV.force_spec hz,←hl]
      unfold ldO
      cases aK τ ty<;>rfl
     ·cases hs
    ·cases hs
   ·cases hs
  ·cases hs
 ·cases hs
def OK (τ:Tab) (ops:Array Oper) (cls:Nat→fZ) (ds:List bH) (i:Nat) (t:List (Nat×AV)) (l:List AV):Option (Nat×List AV):=
 match ops[i]? with
 |some o=>
  match aV ops ⟨t,ds⟩ o,o.dst,qJ (cls i),o.op with
  |some true,none,true,.store ty x y=>(match AF.ev ⟨t,ds⟩ x,aK τ ty with
   |.ptr id off,some ti=>(match decide ((AF.ev ⟨t,ds⟩ y).solid=true∧(AF.ev ⟨t,ds⟩ y).cells.length=ti.size∧off+ti.size≤l.length),oT (bA l off (AF.ev ⟨t,ds⟩ y).cells) with
    |true,some l'=>some (id,l')
    |_,_=>none)
   |_,_=>none)
  |_,_,_,_=>none
 |none=>none
theorem kU (hτ:TabOK P τ) {id:Nat} {l:List AV} (hM:M.get id=some (.cells l)) {l':List AV} (hs:OK τ ops cls ds i t l=some (id,l')) (h:DW P ops cls Q ds ls t (M.set id (.cells l'))):DW P ops cls Q ds (i::ls) t M:=by
 unfold OK at hs
 split at hs
 ·rename_i o hi
  split at hs
  ·rename_i ty x y hw hd hc ho
   split at hs
   ·rename_i id' off ti hx ht
    split at hs
    ·rename_i l2 hb hl
     cases hs
     obtain⟨h1,h2,h3⟩:=of_decide_eq_true hb
     have:=jK hl
     subst this
     exact G2 hi hw hd hc (by rw[ho];exact uK hτ ht hx hM h1 h2 h3) h
    ·cases hs
   ·cases hs
  ·cases hs
 ·cases hs
end
end Go.Ab
namespace Go.Proofs.YthnhbmlefiafaaaGreatDoor
open Go.Proofs Go.Shelf
def Z4:Go.Shelf.Ren:=⟨fun|6=>179|14=>204|15=>205|20=>216|21=>217|22=>218|23=>219|24=>220|25=>221|26=>222|27=>223|28=>224|29=>225|46=>235|47=>236|48=>237|49=>238|50=>239|57=>248|n=>n,fun|0=>0|3=>3|4=>4|5=>5|9=>9|22=>37|24=>132|25=>227|39=>113|45=>263|46=>264|50=>189|53=>270|55=>272|66=>275|70=>279|76=>290|77=>291|n=>n,fun|n=>n⟩
theorem R2:SlLaysF0.n6 Tryz.prog Z4:={
 mixed:=by kernel_rfl
 f6:=⟨Tryz.f179.name,by kernel_rfl,Tryz.func179.trans (congrArg some (by kernel_rfl))⟩
 f14:=⟨Tryz.f204.name,by kernel_rfl,Tryz.func204.trans (congrArg some (by kernel_rfl))⟩
 f15:=Tryz.func205.trans (congrArg some (by kernel_rfl))
 f20:=⟨Tryz.f216.name,by kernel_rfl,Tryz.func216.trans (congrArg some (by kernel_rfl))⟩
 f21:=⟨Tryz.f217.name,by kernel_rfl,Tryz.func217.trans (congrArg some (by kernel_rfl))⟩
 f22:=⟨Tryz.f218.name,by kernel_rfl,Tryz.func218.trans (congrArg some (by kernel_rfl))⟩
 f23:=⟨Tryz.f219.name,by kernel_rfl,Tryz.func219.trans (congrArg some (by kernel_rfl))⟩
 f24:=⟨Tryz.f220.name,by kernel_rfl,Tryz.func220.trans (congrArg some (by kernel_rfl))⟩
 f25:=⟨Tryz.f221.name,by kernel_rfl,Tryz.func221.trans (congrArg some (by kernel_rfl))⟩
 f26:=⟨Tryz.f222.name,by kernel_rfl,Tryz.func222.trans (congrArg some (by kernel_rfl))⟩
 f27:=⟨Tryz.f223.name,by kernel_rfl,Tryz.func223.trans (congrArg some (by kernel_rfl))⟩
 f28:=Tryz.func224.trans (congrArg some (by kernel_rfl))
 f29:=Tryz.func225.trans (congrArg some (by kernel_rfl))
 f46:=⟨Tryz.f235.name,by kernel_rfl,Tryz.func235.trans (congrArg some (by kernel_rfl))⟩
 f47:=Tryz.func236.trans (congrArg some (by kernel_rfl))
 f48:=Tryz.func237.trans (congrArg some (by kernel_rfl))
 f49:=⟨Tryz.f238.name,by kernel_rfl,Tryz.func238.trans (congrArg some (by kernel_rfl))⟩
 f50:=⟨Tryz.f239.name,by kernel_rfl,Tryz.func239.trans (congrArg some (by kernel_rfl))⟩
 f57:=⟨Tryz.f248.name,by kernel_rfl,Tryz.func248.trans (congrArg some (by kernel_rfl))⟩
 t0:=Tryz.underlying0
 a0:=Tryz.isAgg0
 z0:=Tryz.sizeOf0
 v0:=Tryz.zeroValue0
 t3:=Tryz.underlying3
 a3:=Tryz.isAgg3
 z3:=Tryz.sizeOf3
 v3:=Tryz.zeroValue3
 t4:=Tryz.underlying4
 a4:=Tryz.isAgg4
 z4:=Tryz.sizeOf4
 v4:=Tryz.zeroValue4
 t5:=Tryz.underlying5
 a5:=Tryz.isAgg5
 z5:=Tryz.sizeOf5
 v5:=Tryz.zeroValue5
 t9:=Tryz.underlying9
 a9:=Tryz.isAgg9
 z9:=Tryz.sizeOf9
 v9:=Tryz.zeroValue9
 t22:=Tryz.underlying37
 a22:=Tryz.isAgg37
 z22:=Tryz.sizeOf37
 v22:=Tryz.zeroValue37
 t25:=Tryz.underlying227
 a25:=Tryz.isAgg227
 z25:=Tryz.sizeOf227
 v25:=Tryz.zeroValue227
 t39:=Tryz.underlying113
 a39:=Tryz.isAgg113
 z39:=Tryz.sizeOf113
 v39:=Tryz.zeroValue113
 t45:=Tryz.underlying263
 a45:=Tryz.isAgg263
 z45:=Tryz.sizeOf263
 v45:=Tryz.zeroValue263
 t46:=Tryz.underlying264
 a46:=Tryz.isAgg264
 z46:=Tryz.sizeOf264
 v46:=Tryz.zeroValue264
 t50:=Tryz.underlying189
 a50:=Tryz.isAgg189
 z50:=Tryz.sizeOf189
 v50:=Tryz.zeroValue189
 t53:=Tryz.underlying270
 a53:=Tryz.isAgg270
 z53:=Tryz.sizeOf270
 v53:=Tryz.zeroValue270
 t55:=Tryz.underlying272
 a55:=Tryz.isAgg272
 z55:=Tryz.sizeOf272
 v55:=Tryz.zeroValue272
 t66:=Tryz.underlying275
 a66:=Tryz.isAgg275
 z66:=Tryz.sizeOf275
 v66:=Tryz.zeroValue275
 t70:=Tryz.underlying279
 a70:=Tryz.isAgg279
 z70:=Tryz.sizeOf279
 v70:=Tryz.zeroValue279
 t76:=Tryz.underlying290
 a76:=Tryz.isAgg290
 z76:=Tryz.sizeOf290
 v76:=Tryz.zeroValue290
 t77:=Tryz.underlying291
 a77:=Tryz.isAgg291
 z77:=Tryz.sizeOf291
 v77:=Tryz.zeroValue291}
end Go.Proofs.YthnhbmlefiafaaaGreatDoor
namespace Go.Proofs.YthnhbmlefiafaaaGreatDoor
open Go.Ab Go.Shelf Go.RowKit Go.Lib Go.Sort
theorem gH {N:aI} {it j:Nat} {I Z C:cT} (h:j < N.next):(((N.set it I).push Z).set N.next C).get j=if j=it then some I else N.get j:=by
 rw[aI.get_set,if_neg (by omega),aI.get_push,if_neg (by show ¬j=N.next;omega),aI.get_set]
theorem uP {N:aI} {it j:Nat} {I Z C L:cT} (h:j < N.next):((((N.set it I).push Z).set N.next C).push L).get j=if j=it then some I else N.get j:=by
 rw[aI.get_push,if_neg (by show ¬j=N.next+1;omega),gH h]
end Go.Proofs.YthnhbmlefiafaaaGreatDoor
namespace Go.Proofs.YthnhbmlefiafaaaGreatDoor
open Go.Ab
theorem B2 {P:Program} {g:FuncId} {args:List AV} {y:AV} (ha:∀x,x∈args→aP x) (hy:aP y) (h:aS P g args ⟨0,[]⟩ fun e N=>∃x,e=.ret x∧gB 0 N x y∧0≤N.next∧gU 0 N []):aN P g args y:=
 aT ha hy ((aS.cutV (M:=⟨0,[]⟩) (l:=[]) h).mono fun e N ⟨h1,_⟩=>⟨y,h1,aH.of_closed hy⟩)
theorem UZ {k:Nat} (hk:0 < k) (l:List aG) (x y:aG) (g:Nat):aH k (.sl 1 (l.map AV.str++[.str x,.str y]) (.tok 0 g)) (mN (l++[x,y]) (.tok 0 g)):=by
 unfold mN
 rw[Z5]
 exact aH.tok (decide_eq_true hk) (by
  intro z hz c hc
  have:∃s,z=.str s:=by
   rcases List.mem_append.1 hz with hz|hz
   ·obtain⟨s,_,rfl⟩:=List.mem_map.1 hz
    exact⟨s,rfl⟩
   ·simp at hz
    rcases hz with rfl|rfl<;>exact⟨_,rfl⟩
  obtain⟨s,rfl⟩:=this
  exact aY aR c hc)
def pcF (l:List Ch) (tg:eI) (i g:Nat):AF:=⟨[(4,mN (dY (l.take i)) (.tok 0 g)),(12,gS l tg),(13,.int .i64 (l.length:Int)),(14,.int .i64 (i:Int))],[]⟩
theorem ZZ (l:List Ch) (tg:eI) (htg:tg=.none∨tg=.full) (hl:l.length < 1000000) (hs:∀c,c∈l→fE c):aN Tryz.prog 29 [gS l tg] (pcA (x5 l)):=by
 refine aT (aY (eN l htg)) (j5 _) ?_
 refine aC aF Tryz.func29 rfl (by decide) (by simp[Tryz.f29]) ?_
 have la:=aU Ch.av l
 have kb:=zK l tg hl hs
 have hcc:=eN l htg
 unfold gS at*
 cases h:cL l
 ·rw[h] at kb
  rw[OX h]
  repeat' (first|refine zA rfl ?_|refine aA ?_|refine aJ rfl ?_|refine aD rfl kb ?_)
  exact⟨rfl,_,rfl,_,rfl,aH.of_closed (j5 ([],1))⟩
 ·rw[h] at kb
  rw[HO h]
  obtain⟨_,h20,hm,_⟩:=iX h
  have hT:=yW hm
  repeat' (first|refine zI rfl la ?_|refine zA rfl ?_|refine aA ?_|refine aJ rfl ?_|refine aD rfl kb ?_)
  refine aX l.length (fun i f N=>∃g,N=tokM g∧f=pcF l tg i g) (Nat.zero_le _) ⟨0,rfl,rfl⟩ ((aM.tok 4 rfl (sz':=1) (.inr rfl)).trans (aM.le ?_ (cK rfl rfl))) ?_
  ·unfold pcF mN dY gS
   repeat (refine AF.le_cons rfl ?_)
   exact AF.le_nil rfl
  rintro i f N hi ⟨g,rfl,rfl⟩
  unfold pcF mN gS
  have lr:=aU AV.str (dY (l.take i))
  have lr2:=mH (l.take i)
  rw[List.length_take] at lr2
  by_cases g1:i < l.length
  ·have d1:decide ((i:Int) < (l.length:Int))=true:=decide_eq_true (by omega)
   have hx:l[i]? =some l[i]:=List.getElem?_eq_getElem g1
   have fi:=aQ (i:=i) (by omega)
   have ht:=b7 hx
   have hmm:=List.getElem_mem g1
   generalize l[i]=x at hx ht hmm
   have kv:=K2 x.meta_ x.gone (hs x hmm).2
   have e0:kF (cI x.meta_ x.gone)=.tup [.str (cI x.meta_ x.gone).1,.int .i64 0]:=by unfold kF;rw[vG (hm x hmm)]
   rw[e0] at kv
   have eC:dY (l.take (i+1))=dY (l.take i)++[x.path,(cI x.meta_ x.gone).1]:=by rw[ht,IV];rfl
   repeat' (first|refine zB rfl d1 ?_|refine zI rfl fi ?_|refine zA rfl ?_|refine aA ?_|refine aJ rfl ?_|refine aD rfl kv ?_|refine zX rfl (c7 hx) ?_|refine zR rfl ?_|refine zP rfl rfl ?_)
   refine⟨g1,pcF l tg (i+1) (g+1),tokM (g+1),⟨g+1,rfl,rfl⟩,aM.cut (k:=1) (t:=(pcF l tg (i+1) (g+1)).t) (l:=(tokM (g+1)).objs) (Nat.zero_le 1) (by show 1≤2;omega) rfl ⟨?_,?_,?_,?_,trivial⟩ ⟨by decide,rfl,trivial⟩⟩
   ·rw[eC]
    exact UZ (by decide) _ _ _ _
   ·exact aH.of_closed hcc
   ·exact aH.of_closed aB
   ·exact aH.of_closed aB
  ·have d1:decide ((i:Int) < (l.length:Int))=false:=decide_eq_false (by omega)
   obtain rfl:i=l.length:=by omega
   rw[List.take_length] at lr2 lr ⊢
   have kr:=(a3j (dY l) .none (.inl rfl) (by omega) (fun t ht=>by have:=hT t ht;omega)).sub (args:=[.sl 1 ((dY l).map AV.str) (.tok 0 g)]) ⟨Sub.untag,trivial⟩
   have hcl:=j5 (gD (dY l))
   generalize gD (dY l)=z at*
   repeat' (first|refine zB rfl d1 ?_|refine zA rfl ?_|refine aA ?_|refine aJ rfl ?_|refine aD rfl kr ?_)
   exact⟨rfl,_,rfl,_,rfl,aH.of_closed hcl⟩
def rJ:List (aG×aG)→List aG
 |[]=>[]
 |p::r=>p.1::p.2::rJ r
theorem qB:∀m:List (aG×aG),(rJ m).length=2*m.length
 |[]=>rfl
 |p::r=>by
  have:=qB r
  simp only[rJ,List.length_cons,this]
  omega
theorem NT:∀(n:Nat) (l:List aG),l.length=2*n→∃m,l=rJ m
 |0,[],_=>⟨[],rfl⟩
 |n+1,a::b::r,h=>by
  obtain⟨m,rfl⟩:=NT n r (by simp at h;omega)
  exact⟨(a,b)::m,rfl⟩
 |0,_::_,h=>by simp at h
 |n+1,[],h=>by simp at h
 |n+1,[_],h=>by simp at h;omega
theorem ET:∀(m:List (aG×aG)) (j:Nat) {x:aG×aG},m[j]? =some x→(rJ m)[2*j]? =some x.1∧(rJ m)[2*j+1]? =some x.2
 |[],j,x,h=>by simp at h
 |p::r,0,x,h=>by
  cases h
  exact⟨rfl,rfl⟩
 |p::r,j+1,x,h=>by
  obtain⟨h1,h2⟩:=ET r j (by simpa using h)
  have e:2*(j+1)=2*j+1+1:=by omega
  rw[e]
  exact⟨h1,h2⟩
theorem xD {m:List (aG×aG)} {x:aG×aG} (h:x∈m):x.1∈rJ m∧x.2∈rJ m:=by
 obtain⟨j,hj⟩:=List.mem_iff_getElem?.1 h
 obtain⟨h1,h2⟩:=ET m j hj
 exact⟨List.mem_of_getElem? h1,List.mem_of_getElem? h2⟩
def jV (p:aG×aG):Ch:=⟨p.1,(bW p.2).2.1,(bW p.2).1⟩
theorem K5:∀m:List (aG×aG),(∀x,x∈m→(bW x.2).2.2=0)→sC (rJ m)=some (m.map jV)
 |[],_=>rfl
 |p::r,h=>by
  have ih:=K5 r (fun x hx=>h x (by simp[hx]))
  show sC (p.1::p.2::rJ r)=_
  unfold sC
  rw[if_pos (h p (by simp)),ih]
  rfl
theorem HH:∀{m:List (aG×aG)} {x:aG×aG},x∈m→(bW x.2).2.2≠0→sC (rJ m)=none
 |p::r,x,hx,h=>by
  show sC (p.1::p.2::rJ r)=_
  unfold sC
  by_cases h0:(bW p.2).2.2=0
  ·rw[if_pos h0]
   rcases List.mem_cons.1 hx with rfl|hx
   ·exact absurd h0 h
   ·rw[HH hx h]
  ·rw[if_neg h0]
def gcA:Option (List Ch)→AV
 |some l=>nmA (l,0)
 |none=>nmA ([],30)
theorem B6 (x:Option (List Ch)):aP (gcA x):=by
 cases x<;>exact MZ _
theorem iP {k:Nat}:aH k (.tup [.sl 0 [] .full,.int .i64 30]) (gcA none):=aH.tup2 aH.nil (aH.of_closed aB)
theorem a8z (n:Nat) (h:n < 1000000):IntKind.wrap .i64 (Int.tmod (n:Int) 2)=((n%2:Nat):Int):=by
 have e:Int.tmod (n:Int) 2=((n%2:Nat):Int):=rfl
 rw[e]
 exact Go.Ab.wrap_small (by omega) (by omega)
theorem IB {s:aG} (h:mC s=none):l5 s=none:=by
 unfold l5
 rw[h]
theorem u7 {s r:aG} {l:List aG} (h:mC s=some (l,r)) (h2:¬(r=[]∧l.length%2=0)):l5 s=none:=by
 unfold l5
 rw[h]
 show (if _ then _ else _)=_
 rw[if_neg h2]
def a9u:Option (List Ch)→Option (List Ch)
 |none=>none
 |some m=>if cL m=true then some m else none
theorem JQ {s:aG} {m:List (aG×aG)} (h:mC s=some (rJ m,[])):l5 s=a9u (sC (rJ m)):=by
 unfold l5
 rw[h]
 show (if _ then _ else _)=_
 rw[if_pos ⟨rfl,by rw[qB];omega⟩]
 cases sC (rJ m)<;>rfl
theorem JW {s:aG} {m:List (aG×aG)} {x:aG×aG} (h:mC s=some (rJ m,[])) (hx:x∈m) (h0:(bW x.2).2.2≠0):l5 s=none:=by
 rw[JQ h,HH hx h0]
 rfl
theorem KK {s:aG} {m:List (aG×aG)} (h:mC s=some (rJ m,[])) (h0:∀x,x∈m→(bW x.2).2.2=0):l5 s=if cL (m.map jV)=true then some (m.map jV) else none:=by
 rw[JQ h,K5 m h0]
 rfl
theorem G0 {s:aG} {m:List (aG×aG)} (h:mC s=some (rJ m,[])) (h0:∀x,x∈m→(bW x.2).2.2=0) (hb:cL (m.map jV)=false):l5 s=none:=by
 rw[KK h h0,if_neg (by simp[hb])]
theorem J6 {s:aG} {m:List (aG×aG)} (h:mC s=some (rJ m,[])) (h0:∀x,x∈m→(bW x.2).2.2=0) (hb:cL (m.map jV)=true):l5 s=some (m.map jV):=by
 rw[KK h h0,if_pos hb]
theorem A6 {p:aG×aG} (h1:p.1.length≤4000) (h2:(bW p.2).2.2=0):fE (jV p):=by
 have h3:=(BZ h2).2
 unfold mV at h3
 simp only[Bool.and_eq_true,decide_eq_true_eq] at h3
 exact⟨by show p.1.length < 1000000;omega,by show (bW p.2).1.ch.length < 1000000;omega⟩
theorem a8j (L:List (aG×aG)) (x:aG×aG) {id g:Nat}:AV.sl 5 (((L++[x]).map jV).map Ch.av) (.tok id g)=.sl 5 ((L.map jV).map Ch.av++[(jV x).av]) (.tok id g):=by simp
def rgF (m:List (aG×aG)) (j g:Nat):AF:=⟨[(4,mN (rJ m) .none),(7,gS ((m.take j).map jV) (.tok 0 g)),(8,.int .i64 ((2*j:Nat):Int))],[]⟩
theorem W7 (s:aG) (hs:s.length < 1000000):aN Tryz.prog 38 [.str s] (gcA (l5 s)):=by
 refine aT (aY aR) (B6 _) ?_
 refine aC aF Tryz.func38 rfl (by decide) (by simp[Tryz.f38]) ?_
 have kr:=L8 s (by omega)
 cases ho:mC s with
 |none=>
  rw[ho] at kr
  rw[IB ho]
  unfold grA mN at kr
  repeat' (first|refine zA rfl ?_|refine aA ?_|refine aJ rfl ?_|refine aD rfl kr ?_)
  exact⟨rfl,_,rfl,_,rfl,iP⟩
 |some p=>
  obtain⟨l,r⟩:=p
  obtain⟨_,_,hl,hb⟩:=y6 ho
  rw[ho] at kr
  have la:=aU AV.str l
  unfold grA mN at kr
  by_cases hr:r=[]
  ·subst hr
   have d3:(!(([]:aG)==[]))=false:=rfl
   have w2:=a8z l.length (by omega)
   by_cases h2:l.length%2=0
   ·have d4:(!decide (((l.length%2:Nat):Int)=0))=false:=by simp;omega
    obtain⟨m,rfl⟩:=NT (l.length/2) l (by omega)
    have lu:=qB m
    rw[lu] at la hl w2 d4
    repeat' (first|refine zB rfl (by first|exact d3|exact d4) ?_|refine zI rfl la ?_|refine zA rfl ?_|refine aA ?_|refine aJ rfl ?_|refine aD rfl kr ?_)
    refine aX m.length (fun j f N=>∃g,N=tokM g∧(∀(k:Nat) x,k < j→m[k]? =some x→(bW x.2).2.2=0)∧f=rgF m j g) (Nat.zero_le _) ⟨0,rfl,(fun k x hk=>absurd hk (Nat.not_lt_zero _)),rfl⟩ ((aM.tok 7 rfl (sz':=5) (.inr rfl)).trans (aM.le ?_ (cK rfl rfl))) ?_
    ·unfold rgF mN gS
     repeat (refine AF.le_cons rfl ?_)
     exact AF.le_nil rfl
    rintro j f N hj ⟨g,rfl,hok,rfl⟩
    unfold rgF mN gS
    have lc:=aU Ch.av ((m.take j).map jV)
    have lc2:((m.take j).map jV).length≤j:=by rw[List.length_map,List.length_take];omega
    have w1:IntKind.wrap .i64 (((2*j:Nat):Int)+1)=((2*j+1:Nat):Int):=aQ (by omega)
    by_cases g1:j < m.length
    ·have d1:decide (((2*j+1:Nat):Int) < ((2*m.length:Nat):Int))=true:=decide_eq_true (by omega)
     have hx:m[j]? =some m[j]:=List.getElem?_eq_getElem g1
     have ht:=b7 hx
     have hm:=List.getElem_mem g1
     generalize m[j]=x at hx ht hm
     obtain⟨hx1,hx2⟩:=ET m j hx
     obtain⟨hm1,hm2⟩:=xD hm
     have b1:=hb _ hm1
     have b2:=hb _ hm2
     have kd:=A5 x.2 (by omega)
     have w3:IntKind.wrap .i64 (((2*j:Nat):Int)+2)=((2*(j+1):Nat):Int):=(Go.Ab.wrap_small (by omega) (by omega)).trans (by omega)
     by_cases h0:(bW x.2).2.2=0
     ·have d0:(!decide ((bW x.2).2.2=0))=false:=by simp[h0]
      have hcl:=kN (rJ m) (t:=.none) (.inl rfl)
      unfold rmA at kd
      repeat' (first|refine zB rfl (by first|exact d1|exact d0) ?_|refine zI rfl (by first|exact la|exact w1|exact w3) ?_|refine zA rfl ?_|refine aA ?_|refine aJ rfl ?_|refine aD rfl kd ?_|refine zX rfl (c7 hx1) ?_|refine zX rfl (c7 hx2) ?_|refine zR rfl ?_|refine zP rfl rfl ?_|refine aO mixed [0,1,2,5,3,4,6,7,8,9,10] [.P,.P,.P,.R,.R,.P,.R,.P,.P,.E,.P] rfl rfl (by kernel_rfl) ?_)
      refine⟨g1,rgF m (j+1) (g+1),tokM (g+1),⟨g+1,rfl,?_,rfl⟩,?_⟩
      ·intro k y hk hy
       by_cases hkj:k=j
       ·subst hkj
        rw[hx] at hy
        cases hy
        exact h0
       ·exact hok k y (by omega) hy
      ·refine aM.cut (k:=1) (t:=(rgF m (j+1) (g+1)).t) (l:=(tokM (g+1)).objs) (Nat.zero_le 1) (by show 1≤2;omega) rfl ⟨?_,?_,?_,trivial⟩ ⟨by decide,rfl,trivial⟩
       ·exact aH.of_closed hcl
       ·rw[ht,List.map_append]
        exact a1i (by decide) ((m.take j).map jV) (jV x)
       ·exact aH.of_closed aB
     ·have d0:(!decide ((bW x.2).2.2=0))=true:=by simp[h0]
      rw[JW ho hm h0]
      unfold rmA at kd
      repeat' (first|refine zB rfl (by first|exact d1|exact d0) ?_|refine zI rfl (by first|exact la|exact w1) ?_|refine zA rfl ?_|refine aA ?_|refine aJ rfl ?_|refine aD rfl kd ?_|refine zX rfl (c7 hx2) ?_)
      exact⟨rfl,_,rfl,_,rfl,iP⟩
    ·have d1:decide (((2*j+1:Nat):Int) < ((2*m.length:Nat):Int))=false:=decide_eq_false (by omega)
     obtain rfl:j=m.length:=by omega
     have hall:∀x,x∈m→(bW x.2).2.2=0:=fun x hx=>by
      obtain⟨k,hk⟩:=List.mem_iff_getElem?.1 hx
      exact hok k x (List.getElem?_eq_some_iff.1 hk).1 hk
     rw[List.take_length] at lc lc2 ⊢
     have kb:=qE (m.map jV) (.tok 0 g) (by omega) (fun c hc=>by
      obtain⟨x,hx,rfl⟩:=List.mem_map.1 hc
      exact A6 (hb _ (xD hx).1) (hall x hx))
     have hcl:=eN (m.map jV) (t:=.none) (.inl rfl)
     unfold gS at kb hcl
     cases h:cL (m.map jV)
     ·rw[h] at kb
      rw[G0 ho hall h]
      repeat' (first|refine zB rfl d1 ?_|refine zI rfl (by first|exact la|exact w1) ?_|refine zA rfl ?_|refine aA ?_|refine aJ rfl ?_|refine aD rfl kb ?_)
      exact⟨rfl,_,rfl,_,rfl,iP⟩
     ·rw[h] at kb
      rw[J6 ho hall h]
      repeat' (first|refine zB rfl d1 ?_|refine zI rfl (by first|exact la|exact w1) ?_|refine zA rfl ?_|refine aA ?_|refine aJ rfl ?_|refine aD rfl kb ?_)
      exact⟨rfl,_,rfl,_,rfl,aH.tup2 (aH.untag hcl) (aH.of_closed aB)⟩
   ·have d4:(!decide (((l.length%2:Nat):Int)=0))=true:=by simp;omega
    rw[u7 ho (fun h=>h2 h.2)]
    repeat' (first|refine zB rfl (by first|exact d3|exact d4) ?_|refine zI rfl la ?_|refine zA rfl ?_|refine aA ?_|refine aJ rfl ?_|refine aD rfl kr ?_)
    exact⟨rfl,_,rfl,_,rfl,iP⟩
  ·have d3:(!(r==[]))=true:=by simp[hr]
   rw[u7 ho (fun h=>hr h.1)]
   repeat' (first|refine zB rfl d3 ?_|refine zA rfl ?_|refine aA ?_|refine aJ rfl ?_|refine aD rfl kr ?_)
   exact⟨rfl,_,rfl,_,rfl,iP⟩
end Go.Proofs.YthnhbmlefiafaaaGreatDoor
namespace Go.Ab
open Go.RowKit
def V3 (P:Program) (gf:FuncId) (lb:List AV) {α:Type} (enc:α→List AV) (ok:List α→α→Prop) (out:List α):Prop:=
 ∀(y:Nat) (J:List α→aI→Prop) (B:aI→Prop) (M:aI),(∀L N,J L N→∃o vs t,N.get y=some (.raw none o vs t))→
  (∀L x N,J L N→ok L x→fS P y (enc x) N fun e N'=>(e=.ret (.bool true)∧J (L++[x]) N')∨(e=.ret (.bool false)∧B N'))→J [] M→
  aS P gf (.yld y::lb) M fun e N=>e=.ret (.tup [])∧(J out N∨B N)
theorem WY {P:Program} {n:Nat} {g:Operand} {ps:Array Tmp} {assign body:Code} {Q:AX→AF→aI→Prop} {f:AF} {M:aI} {gf:FuncId} {lb:List AV} {α:Type} {enc:α→List AV} {ok:List α→α→Prop} {out:List α}
  (hg:f.ev g=.fn (.func gf) [] lb) (hit:V3 P gf lb enc ok out) (K:cT→List α→aI→Prop) (S:aI→Prop) (hps:∀x,ps.toList.length=(enc x).length) (hpn:(ps.toList.all fun p=>decide (p < n))=true)
  (hK:∀O L N,K O L N→N.get (M.next+1)=some O) (h0:∀O,K O [] ⟨M.next+2,(M.next+1,O)::(M.next,l7)::M.objs⟩)
  (hround:∀(O O1:cT) (L:List α) (x:α) (N:aI) (l:Nat),K O L N→ok L x→
   W (some l) P n assign (t7 (fun f1 M1=>M1.get (M.next+1)=some O∧W (some l) P n body (fun e _ N'=>N'.get (M.next+1)=some O1∧((e=.normal∧K O (L++[x]) (N'.set (M.next+1) O))∨(e=.ret∧S N'))) f1 (M1.set (M.next+1) O1)) (fun _ _ _=>False)) ⟨GR ps.toList (enc x) f.t,[]⟩ N)
  (hdone:∀O N,K O out N→∃N',N'.le N∧N'.get (M.next+1)=none∧Q .normal ⟨f.t,nW M.next::f.d⟩ N')
  (hleft:∀O N,S N→∃N',N'.le (N.set (M.next+1) O)∧N'.get (M.next+1)=none∧Q .ret ⟨f.t,nW M.next::f.d⟩ N'):
  W none P n (.rangeFunc g ps assign body) Q f M:=by
 refine EA hg fun fn tmps D hn=>?_
 refine (hit (M.next+1) (fun L N=>K (.raw none (.loop (fC fn tmps ps assign body D .ready none)) tmps f.t) L N) (fun N=>∃N0,S N0∧N=N0.set (M.next+1) (.raw none (.loop (fC fn tmps ps assign body D .done (some .ret))) tmps f.t)) _ (fun L N h=>⟨_,_,_,hK _ _ _ h⟩) ?_ (h0 _)).mono ?_
 ·intro L x N hJ hok
  refine s9 (hK _ _ _ hJ) hn (hps x) hpn fun l=>?_
  refine (hround _ (.raw none (.loop (fC fn tmps ps assign body D .busy none)) tmps f.t) L x N l hJ hok).mono ?_
  rintro x1 f1 M1 h1
  cases x1 with
  |normal=>
   refine⟨h1.1,h1.2.mono ?_⟩
   rintro x2 f2 M2 ⟨h3,h4⟩
   rcases h4 with ⟨rfl,h4⟩|⟨rfl,h4⟩
   ·exact⟨h3,.inl ⟨rfl,h4⟩⟩
   ·exact⟨h3,.inr ⟨rfl,_,h4,rfl⟩⟩
  |exit id=>exact h1.elim
  |ret=>exact h1.elim
  |panic v=>exact h1.elim
 ·rintro e N ⟨rfl,hJ⟩
  rcases hJ with hJ|⟨N0,hS,rfl⟩
  ·obtain⟨N',h1,h2,h3⟩:=hdone _ N hJ
   exact⟨.ready,none,N',by simp,hK _ _ _ hJ,h1,h2,h3⟩
  ·obtain⟨N',h1,h2,h3⟩:=hleft _ N0 hS
   refine⟨.done,some .ret,N',by simp,?_,h1,h2,h3⟩
   rw[aI.get_set,if_pos rfl]
theorem aI.drop_le {N:aI} {id:Nat}:(N.drop id).le N:=⟨rfl,fun i o h=>by
 rw[aI.get_drop] at h
 split at h
 ·cases h
 ·exact h⟩
end Go.Ab
