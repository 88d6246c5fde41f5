/- Parts of the proof, one behind the other. No further condition. -/
import Derived.Test.YtbcaejhhgkcgpaaGreatDoorK09
set_option linter.unusedVariables false
set_option linter.unusedSimpArgs false
namespace Go.Ab
open Go.RowKit
theorem opE_buildO {P:Program} {τ:Tab} (hτ:TabOK P τ) {t e:TypeId} {ti ei:TI} (ht:lookup τ t=some ti) (hk:ti.k=.slice e) (he:lookup τ e=some ei) (hpos:0 < ei.size) {n:Nat} {ps:Array (Nat×Operand)} {ty:TypeId} {ρ:Operand→AV} {M:Mem}
  (hn:ps.size=n) (hidx:idxOK ps.toList 0=true) (hsz:sizedAll ei.size (ps.toList.map fun p=>ρ p.2)=true) (hbig:n*ei.size≤16777216):
  OpE P (.buildSlice t n ps) ty ρ M (.osl M.next 0 n n ei.size) (M.push (.cells (flat (ps.toList.map fun p=>ρ p.2)))):=by
 intro μ F w ρc o hg ho hty hr
 obtain⟨ft,dt,zt,HT⟩:=TI.spec hτ ht
 obtain⟨fe,de,ze,HE⟩:=TI.spec hτ he
 have hfit:=HT.fits
 rw[hk] at hfit
 have hdd:dt=.slice e:=by
  cases dt<;>simp[TK.fits] at hfit
  rw[hfit]
 subst hdd
 have hrp:∀p,p∈ps.toList→Rep μ F w (ρ p.2) (ρc p.2):=by
  intro p hp
  refine hr p.2 ?_
  simp only[Op.operands]
  rw[List.mem_toArray,List.mem_map]
  exact⟨p,hp,rfl⟩
 have hsp:=sizedAll_spec hsz
 have hzc:=HE.zcells μ F w
 have hzs:ze.cells.size=ei.size:=by rw[hzc.size,HE.len]
 let z0:Array Value:=(Array.range (n*ei.size)).map fun k=>ze.cells[k%ze.cells.size]!
 have hz0:Cells μ F w (List.replicate (n*ei.size) .top) z0:=by
  refine⟨by simp[z0],?_,?_⟩
  ·intro i u hu
   have hi:i < n*ei.size:=by
    have:=(Array.getElem?_eq_some_iff.1 hu).1
    simpa [z0] using this
   have hm:i%ze.cells.size < ze.cells.size:=Nat.mod_lt _ (by omega)
   simp only[z0,Array.getElem?_map,Array.getElem?_range,hi,if_true,Option.map_some,Option.some.injEq] at hu
   rw[getElem!_pos ze.cells _ hm] at hu
   exact hzc.one _ u (by rw[Array.getElem?_eq_getElem hm,hu])
  ·intro i y u hy hu
   rw[List.getElem?_replicate] at hy
   split at hy<;>cases hy
   exact .top _
 have hlen:(ps.toList.map fun p=>(p.1,ρ p.2)).length=n:=by simp[hn]
 have hfull:=afill_full ei.size (ps.toList.map fun p=>(p.1,ρ p.2)) 0 [] (by simp) (by
  have:∀(l:List (Nat×Operand)) (k:Nat),idxOK l k=true→idxOK (l.map fun p=>(p.1,ρ p.2)) k=true:=by
   intro l
   induction l with
   |nil=>intro k _;rfl
   |cons p r ih=>
    intro k h
    simp only[idxOK,List.map_cons,Bool.and_eq_true] at h ⊢
    exact⟨h.1,ih _ h.2⟩
  exact this _ _ hidx) (by
  intro p hp
  obtain⟨q,hq,rfl⟩:=List.mem_map.1 hp
  exact hsp _ (List.mem_map.2 ⟨q,hq,rfl⟩))
 rw[hlen,List.nil_append,List.nil_append,List.map_map] at hfull
 obtain⟨c',hc',hcells⟩:=fill_rel (μ:=μ) (F:=F) (w:=w) (place:=placeA ei.size) (placec:=fun i=>some (i*ei.size,ei.size)) (ρ:=ρ) (ρc:=ρc) (fun i q hq=>hq) ps.toList _ z0 _ hz0 hrp hfull
 have hb:=below_push w (.cells c' e)
 have hnew:({w with heap:=w.heap.push (.cells c' e)}:World).heap[w.heap.size]? =some (.cells c' e (0,0)):=by simp
 have hpm:(ps.map fun p=>(p.1,ρc p.2)).toList=ps.toList.map fun p=>(p.1,ρc p.2):=by simp
 obtain⟨hev,hG⟩:=gam_push hg hb (l:=flat (ps.toList.map fun p:Nat×Operand=>ρ p.2)) (Nat.le_refl _) hnew hcells.size hcells.one hcells.rep
 refine⟨_,_,.slice (some ⟨w.heap.size,0,none⟩) n n,_,?_,.inl rfl,hev,hG,rep_osl (by simp[Mu.put])⟩
 have hze:(zeroValue e).run P w=.ok ze w:=by simp[zeroValue,typeInfo,HE.info,HE.zero]
 simp only[execOp,ho,Instr.buildSlice,Sem.run_bind,run_underlying HT.und,Result.andThen_ok,run_sizeOf w HE.info,HE.cellsOf]
 rw[if_neg (by simpa using hbig)]
 by_cases h0:n*ei.size=0
 ·rw[if_pos h0]
  have hz':(Array.range (n*ei.size)).map (fun k=>(#[]:Array Value)[k%(#[]:Array Value).size]!)=z0:=by simp[z0,h0]
  simp only[Sem.run_bind,Sem.run_pure,Result.andThen_ok,hz',hpm,hc']
  simp[newRow]
 ·rw[if_neg h0]
  simp only[Sem.run_bind,hze,Sem.run_pure,Result.andThen_ok]
  have hz':(Array.range (n*ei.size)).map (fun k=>ze.cells[k%ze.cells.size]!)=z0:=rfl
  simp only[hz',hpm,hc']
  simp[newRow]
section
variable {P:Program} {τ:Tab} {ops:Array Oper} {cls:Nat→Cls} {Q:AX→AF→Mem→Prop} {ds:List ADef} {ls:List Nat} {i:Nat} {t:List (Nat×AV)} {M:Mem}
def olitOp (τ:Tab) (ds:List ADef) (t:List (Nat×AV)) (M:Mem) (d:Nat) (ty:TypeId) (n:Nat) (ps:Array (Nat×Operand)):Option (List (Nat×AV)×List AV):=
 match lookup τ ty with
 |some ti=>
  match ti.k with
  |.slice e=>
   match lookup τ e with
   |some ei=>
    match decide (0 < ei.size),decide (ps.size=n),idxOK ps.toList 0,sizedAll ei.size (ps.toList.map fun p=>AF.ev ⟨t,ds⟩ p.2),decide (n*ei.size≤16777216),forceL (flat (ps.toList.map fun p=>AF.ev ⟨t,ds⟩ p.2)) with
    |true,true,true,true,true,some ys=>some ((d,.osl M.next 0 n n ei.size)::t,ys)
    |_,_,_,_,_,_=>none
   |none=>none
  |_=>none
 |none=>none
def stepOlit (τ:Tab) (ops:Array Oper) (cls:Nat→Cls) (ds:List ADef) (i:Nat) (t:List (Nat×AV)) (M:Mem) (d:Nat):Option (List (Nat×AV)×List AV):=
 match ops[i]? with
 |some o=>
  match wantedA ops ⟨t,ds⟩ o,decide (o.dst=some d),isE (cls i),o.op with
  |some true,true,true,.buildSlice ty n ps=>olitOp τ ds t M d ty n ps
  |_,_,_,_=>none
 |none=>none
theorem DW_orow (d:Nat) (hτ:TabOK P τ) {t':List (Nat×AV)} {ys:List AV} (hs:stepOlit τ ops cls ds i t M d=some (t',ys)) (h:DW P ops cls Q ds ls t' (M.push (.cells ys))):DW P ops cls Q ds (i::ls) t M:=by
 unfold stepOlit at hs
 split at hs
 ·rename_i o hi
  split at hs
  ·rename_i ty n ps hw hd hc ho
   unfold olitOp at hs
   split at hs
   ·rename_i ti ht
    split at hs
    ·rename_i e hk
     split at hs
     ·rename_i ei he
      split at hs
      ·rename_i ys' hp hn hidx hsz hbig hys
       cases hs
       have:=forceL_spec hys
       subst this
       exact DW_ofE hi hw (of_decide_eq_true hd) hc (by rw[ho];exact opE_buildO hτ ht hk he (of_decide_eq_true hp) (of_decide_eq_true hn) hidx hsz (of_decide_eq_true hbig)) h
      ·cases hs
     ·cases hs
    ·cases hs
   ·cases hs
  ·cases hs
 ·cases hs
structure OApp where
 d:Nat
 id:Nat
 n:Nat
 cap:Nat
 sz:Nat
 bt:Nat
 l:List AV
 ys:List AV
def oappOp (τ:Tab) (ds:List ADef) (t:List (Nat×AV)) (M:Mem) (d:Nat) (ty tx:TypeId) (s y:Operand):Option OApp:=
 match AF.ev ⟨t,ds⟩ s with
 |.osl id 0 n cap sz=>
  match M.get id,lookup τ ty,lookup τ tx with
  |some (.cells l),some ti,some xi=>
   match ti.k with
   |.slice e=>
    match lookup τ e with
    |some ei=>
     match decide (0 < ei.size),srcFits xi.k (AF.ev ⟨t,ds⟩ y),decide (sz=ei.size),srcOf ei.size (AF.ev ⟨t,ds⟩ y) with
     |true,true,true,some ys=>some ⟨d,id,n,cap,sz,ei.bytes,l,ys⟩
     |_,_,_,_=>none
    |none=>none
   |_=>none
  |_,_,_=>none
 |_=>none
def stepOapp (τ:Tab) (ops:Array Oper) (cls:Nat→Cls) (ds:List ADef) (i:Nat) (t:List (Nat×AV)) (M:Mem):Option OApp:=
 match ops[i]? with
 |some o=>
  match wantedA ops ⟨t,ds⟩ o,o.dst,isE (cls i),o.op with
  |some true,some d,true,.call {callee:=.builtin .append,args:=⟨[s,y]⟩,argTypes:=⟨[ty,tx]⟩}=>oappOp τ ds t M d ty tx s y
  |_,_,_,_=>none
 |none=>none
theorem DW_oappA (hτ:TabOK P τ) {d id n cap sz bt:Nat} {l ys:List AV} (hs:stepOapp τ ops cls ds i t M=some ⟨d,id,n,cap,sz,bt,l,ys⟩) (hl:l.length=cap*sz) (hnc:n≤cap) (hb:(n+ys.length)*bt≤140737488355328) (hlen:n+ys.length≤140737488355328)
  (h:∀(cap':Nat) (l':List AV),n+ys.length≤cap'→l'.length=cap'*sz→l'.take ((n+ys.length)*sz)=l.take (n*sz)++flat ys→DW P ops cls Q ds ls ((d,.osl M.next 0 (n+ys.length) cap' sz)::t) ((M.drop id).push (.cells l'))):DW P ops cls Q ds (i::ls) t M:=by
 unfold stepOapp at hs
 split at hs
 ·rename_i o hi
  split at hs
  ·rename_i d' s y ty tx hw hd hc ho
   unfold oappOp at hs
   split at hs
   ·rename_i id' n' cap' sz' hS
    split at hs
    ·rename_i l' ti xi hM ht hxi
     split at hs
     ·rename_i e hk
      split at hs
      ·rename_i ei he
       split at hs
       ·rename_i ys' hp hf hsz hX
        cases hs
        exact DW_oapp hτ hi hw hd hc ho hS hM ht hk he hp hxi (of_decide_eq_true hsz) hf hX hl hnc hb hlen h
       ·cases hs
      ·cases hs
     ·cases hs
    ·cases hs
   ·cases hs
  ·cases hs
 ·cases hs
def stepOix (τ:Tab) (ops:Array Oper) (cls:Nat→Cls) (ds:List ADef) (i:Nat) (t:List (Nat×AV)) (M:Mem):Option (List (Nat×AV)):=
 match ops[i]? with
 |some o=>
  match wantedA ops ⟨t,ds⟩ o,o.dst,notP (cls i),o.op with
  |some true,some d,true,.indexAddr ty X I=>(match AF.ev ⟨t,ds⟩ X,AF.ev ⟨t,ds⟩ I with
   |.osl id off n cap sz,.int k j=>(match M.get id,lookup τ ty with
    |some (.cells l),some ti=>(match ti.k with
     |.slice e=>(match lookup τ e with
      |some ei=>(match decide (0≤j),decide (j < n),decide (sz=ei.size) with
       |true,true,true=>some ((d,.ptr id (off+j.toNat*sz))::t)
       |_,_,_=>none)
      |none=>none)
     |_=>none)
    |_,_=>none)
   |_,_=>none)
  |_,_,_,_=>none
 |none=>none
theorem DW_oix (hτ:TabOK P τ) {t':List (Nat×AV)} (hs:stepOix τ ops cls ds i t M=some t') (h:DW P ops cls Q ds ls t' M):DW P ops cls Q ds (i::ls) t M:=by
 unfold stepOix at hs
 split at hs
 ·rename_i o hi
  split at hs
  ·rename_i d ty X I hw hd hc ho
   split at hs
   ·rename_i id off n cap sz k j hX hI
    split at hs
    ·rename_i l ti hM ht
     split at hs
     ·rename_i e hk
      split at hs
      ·rename_i ei he
       split at hs
       ·rename_i h0 hj hsz
        cases hs
        exact DW_ofR hi hw hd hc (by rw[ho];exact opR_oindex hτ ht hk he hX hM hI (of_decide_eq_true h0) (of_decide_eq_true hj) (of_decide_eq_true hsz)) h
       ·cases hs
      ·cases hs
     ·cases hs
    ·cases hs
   ·cases hs
  ·cases hs
 ·cases hs
def stepOlen (τ:Tab) (ops:Array Oper) (cls:Nat→Cls) (ds:List ADef) (i:Nat) (t:List (Nat×AV)) (M:Mem):Option (List (Nat×AV)):=
 match ops[i]? with
 |some o=>
  match wantedA ops ⟨t,ds⟩ o,o.dst,notP (cls i),o.op with
  |some true,some d,true,.call {callee:=.builtin .len,args:=⟨[x]⟩,argTypes:=⟨[ty]⟩}=>(match AF.ev ⟨t,ds⟩ x with
   |.osl id off n cap sz=>(match M.get id,lookup τ ty with
    |some (.cells l),some ti=>(match ti.k with
     |.slice e=>some ((d,.int .i64 n)::t)
     |_=>none)
    |_,_=>none)
   |_=>none)
  |_,_,_,_=>none
 |none=>none
theorem DW_olenA (hτ:TabOK P τ) {t':List (Nat×AV)} (hs:stepOlen τ ops cls ds i t M=some t') (h:DW P ops cls Q ds ls t' M):DW P ops cls Q ds (i::ls) t M:=by
 unfold stepOlen at hs
 split at hs
 ·rename_i o hi
  split at hs
  ·rename_i d x ty hw hd hc ho
   split at hs
   ·rename_i id off n cap sz hX
    split at hs
    ·rename_i l ti hM ht
     split at hs
     ·rename_i e hk
      cases hs
      exact DW_olen hτ hi hw hd hc ho hX hM ht hk h
     ·cases hs
    ·cases hs
   ·cases hs
  ·cases hs
 ·cases hs
end
theorem rep_frozen {μ μ2:Mu} {F:Frm} {w:World} {id b n cap:Nat} {M:Mem} {l xs:List AV} (hg:Gam μ F M w) (hM:M.get id=some (.cells l)) (hb:μ id=some (.at b)) (hx:l.take n=xs) (hnl:n≤l.length) (hnc:n≤cap) (h1:∀x,x∈xs→x.cells=[x])
  (k2:∀b o,Own μ2 b o→∃i,i≠id∧(μ i=some (.at b)∨∃e g,μ i=some (.spare (some (b,e)) g)∧e≤o)) (k3:Evo w μ w μ2):Rep μ2 F w (.sl 1 xs .none) (.slice (some ⟨b,0,none⟩) n cap):=by
 obtain⟨b',c,ty,o1,o2,o3,o4,o5⟩:=hg.obj id l hM
 rw[hb] at o1
 cases o1
 have hlen:xs.length=n:=by rw[←hx,List.length_take];omega
 rw[←hlen]
 have key:∀(p:Nat) (x:AV) (q:Nat) (y:AV),xs[p]? =some x→x.cells[q]? =some y→q=0∧y=x∧l[p]? =some x∧p < l.length:=by
  intro p x q y hp hq
  rw[h1 x (List.mem_of_getElem? hp)] at hq
  have hpn:p < n:=by rw[←hlen];exact (List.getElem?_eq_some_iff.1 hp).1
  rw[←hx,List.getElem?_take,if_pos hpn] at hp
  cases q with
  |zero=>simp at hq;exact⟨rfl,hq.symm,hp,by omega⟩
  |succ q=>simp at hq
 have hcell:∀p,p < l.length→c[p]? =some (c.getD p undef):=by
  intro p hp
  have:p < c.size:=by omega
  simp[Array.getD,this]
 refine .sl 1 xs .none _ _ ⟨b,0,none⟩ (fun p=>c.getD p undef) ?_ (by omega) (fun _=>⟨rfl,rfl⟩) ?_ ?_ ?_ trivial
 ·intro x hx'
  rw[h1 x hx']
  rfl
 ·intro p x q y hp hq
  obtain⟨rfl,rfl,h4,h5⟩:=key p x q y hp hq
  rw[Nat.mul_one,Nat.add_zero]
  exact o4 p _ (hcell p h5)
 ·intro p x q y hp hq
  obtain⟨rfl,rfl,h4,h5⟩:=key p x q y hp hq
  simp only[Nat.mul_one,Nat.add_zero,Nat.zero_add]
  refine⟨by rw[cell_mk o2];exact hcell p h5,hg.frm b p ⟨id,.inl hb⟩,?_⟩
  intro ho
  obtain⟨i',hi',h6|⟨e',g',h6,_⟩⟩:=k2 b p ho
  ·exact hi' (hg.inj i' id b (.inl h6) (.inl hb))
  ·exact hi' (hg.inj i' id b (.inr ⟨e',g',h6⟩) (.inl hb))
 ·intro p x q y hp hq
  obtain⟨rfl,rfl,h4,h5⟩:=key p x q y hp hq
  rw[Nat.mul_one,Nat.add_zero]
  exact (o5 p _ _ h4 (hcell p h5)).evo k3
end Go.Ab
namespace Go.Ab
open Go.RowKit
def AIter (P:Program) (gf:FuncId) (lb:List AV) {α:Type} (enc:α→List AV) (ok:List α→α→Prop) (out:List α):Prop:=
 ∀(y:Nat) (J:List α→Mem→Prop) (M:Mem),(∀L N,J L N→∃o vs t,N.get y=some (.raw none o vs t))→
  (∀L x N,J L N→ok L x→AYields P y (enc x) N fun e N'=>e=.ret (.bool true)∧J (L++[x]) N')→J [] M→
  ACalls P gf (.yld y::lb) M fun e N=>e=.ret (.tup [])∧J out N
theorem W_rangeJ {P:Program} {n:Nat} {g:Operand} {ps:Array Tmp} {assign body:Code} {Q:AX→AF→Mem→Prop} {f:AF} {M:Mem} {gf:FuncId} {lb:List AV} {α:Type} {enc:α→List AV} {ok:List α→α→Prop} {out:List α}
  (hg:f.ev g=.fn (.func gf) [] lb) (hit:AIter P gf lb enc ok out) (K:AObj→List α→Mem→Prop) (hps:∀x,ps.toList.length=(enc x).length) (hpn:(ps.toList.all fun p=>decide (p < n))=true)
  (hK:∀O L N,K O L N→N.get (M.next+1)=some O) (h0:∀O,K O [] ⟨M.next+2,(M.next+1,O)::(M.next,deferO)::M.objs⟩)
  (hround:∀(O O1:AObj) (L:List α) (x:α) (N:Mem) (l:Nat),K O L N→ok L x→
   W (some l) P n assign (thenX (fun f1 M1=>M1.get (M.next+1)=some O∧W (some l) P n body (fun e _ N'=>e=.normal∧N'.get (M.next+1)=some O1∧K O (L++[x]) (N'.set (M.next+1) O)) f1 (M1.set (M.next+1) O1)) (fun _ _ _=>False)) ⟨parT ps.toList (enc x) f.t,[]⟩ N)
  (hdone:∀O N,K O out N→∃N',N'.le N∧N'.get (M.next+1)=none∧Q .normal ⟨f.t,markD M.next::f.d⟩ N'):
  W none P n (.rangeFunc g ps assign body) Q f M:=by
 refine W_range hg fun fn tmps D hn=>?_
 refine (hit (M.next+1) (fun L N=>K (.raw none (.loop (loopR fn tmps ps assign body D .ready none)) tmps f.t) L N) _ (fun L N h=>⟨_,_,_,hK _ _ _ h⟩) ?_ (h0 _)).mono ?_
 ·intro L x N hJ hok
  refine ayields_of (hK _ _ _ hJ) hn (hps x) hpn fun l=>?_
  refine (hround _ (.raw none (.loop (loopR fn tmps ps assign body D .busy none)) tmps f.t) L x N l hJ hok).mono ?_
  rintro x1 f1 M1 h1
  cases x1 with
  |normal=>
   refine⟨h1.1,h1.2.mono ?_⟩
   rintro x2 f2 M2 ⟨rfl,h3,h4⟩
   exact⟨h3,rfl,h4⟩
  |exit id=>exact h1.elim
  |ret=>exact h1.elim
  |panic v=>exact h1.elim
 ·rintro e N ⟨rfl,hJ⟩
  obtain⟨N',h1,h2,h3⟩:=hdone _ N hJ
  exact⟨.ready,none,N',by simp,hK _ _ _ hJ,h1,h2,h3⟩
theorem marks1 {K:Mem→Prop} {y:Nat} {M N:Mem} (hM:M.get y=some deferO) (hN:N.le M) (hy:N.get y=none) (h:K N):MarksOK K [markD y] M:=⟨y,N,rfl,hM,hN,hy,h⟩
theorem Mem.le_trans {A B C:Mem} (h:A.le B) (k:B.le C):A.le C:=⟨h.1.trans k.1,fun i o hi=>k.2 i o (h.2 i o hi)⟩
theorem opR_ob2s {P:Program} {τ:Tab} (hτ:TabOK P τ) {s d e:TypeId} {si di ei:TI} (hs:lookup τ s=some si) (hks:si.k=.slice e) (he:lookup τ e=some ei) (hke:ei.k=.int .u8) (hd:lookup τ d=some di) (hkd:di.k=.str) {X:Operand} {ty:TypeId} {ρ:Operand→AV} {M:Mem} {id n cap:Nat} {l:List AV} {bs:List UInt8}
  (hX:ρ X=.osl id 0 n cap 1) (hM:M.get id=some (.cells l)) (hl:l.take n=bs.map byteAV) (hnl:n≤l.length) (hnc:n≤cap):OpR P (.convert s d X) ty ρ M (.str bs):=by
 intro μ F w ρc o hg ho hty hr
 have hx:=hr X (by simp[Op.operands])
 rw[hX] at hx
 obtain⟨b,hb,hv⟩:=gam_osl hg hM hx
 have hid:id < M.next:=(hg.dom id).1 (by rw[hb];simp)
 obtain⟨μ2,k1,k2,k3,k4⟩:=gam_kill hg hid
 have hG:=k4 (M.drop id) rfl (fun j=>Mem.get_drop M id j)
 have hrep:=rep_frozen hg hM hb hl hnl hnc (fun x hx=>by obtain⟨c,_,rfl⟩:=List.mem_map.1 hx;rfl) k2 k3
 obtain⟨v,w',h1,h2,h3⟩:=opP_b2s (P:=P) hτ hs hks he hke hd hkd (x:=X) (ty:=ty) (ρ:=fun _=>.sl 1 (bs.map byteAV) .none) rfl μ2 F w ρc o hG.fit ho hty (fun y hy=>by
  have:y=X:=by simpa [Op.operands] using hy
  subst this
  rw[hv]
  exact hrep)
 refine⟨v,w',h1,h2,?_⟩
 cases h3
 exact .str _
theorem DW_ob2s {P:Program} {τ:Tab} {ops:Array Oper} {cls:Nat→Cls} {Q:AX→AF→Mem→Prop} {ds:List ADef} {ls:List Nat} {i:Nat} {o:Oper} {t:List (Nat×AV)} {M:Mem} (hτ:TabOK P τ) {d:Nat} (hi:ops[i]? =some o) (hw:wantedA ops ⟨t,ds⟩ o=some true) (hd:o.dst=some d) (hc:notP (cls i)=true)
  {s e dt:TypeId} {X:Operand} (ho:o.op=.convert s dt X) {si di ei:TI} (hs:lookup τ s=some si) (hks:si.k=.slice e) (he:lookup τ e=some ei) (hke:ei.k=.int .u8) (hdt:lookup τ dt=some di) (hkd:di.k=.str) {id n cap:Nat} {l:List AV} {bs:List UInt8}
  (hX:AF.ev ⟨t,ds⟩ X=.osl id 0 n cap 1) (hM:M.get id=some (.cells l)) (hl:l.take n=bs.map byteAV) (hnl:n≤l.length) (hnc:n≤cap) (h:DW P ops cls Q ds ls ((d,.str bs)::t) M):DW P ops cls Q ds (i::ls) t M:=
 DW_ofR hi hw hd hc (by rw[ho];exact opR_ob2s hτ hs hks he hke hdt hkd hX hM hl hnl hnc) h
end Go.Ab
namespace Go.Proofs.YtbcaejhhgkcgpaaGreatDoor
open Go.Ab
def nbI (n i:Nat):Bytes:=((be4 n).take i).dropWhile (·==0)
def nb (n:Nat):Bytes:=nbI n 4
theorem dropWhile_snoc {p:UInt8→Bool} (b:UInt8):∀l:Bytes,(l++[b]).dropWhile p=if l.dropWhile p=[] then (if p b=true then [] else [b]) else l.dropWhile p++[b]
 |[]=>by cases h:p b<;>simp[List.dropWhile,h]
 |a::l=>by
  cases h:p a
  ·simp[List.dropWhile,h]
  ·simpa [List.dropWhile,h] using dropWhile_snoc b l
theorem nbI_succ (n j:Nat) (h:j < 4):nbI n (4 - j)=if nbI n (3 - j)=[] then (if (byteAt n j==0)=true then [] else [byteAt n j]) else nbI n (3 - j)++[byteAt n j]:=by
 have e:(be4 n).take (4 - j)=(be4 n).take (3 - j)++[byteAt n j]:=by
  match j,h with
  |0,_=>rfl
  |1,_=>rfl
  |2,_=>rfl
  |3,_=>rfl
 unfold nbI
 rw[e,dropWhile_snoc]
theorem nbI_len (n i:Nat):(nbI n i).length≤i:=by
 have h1:(nbI n i).length≤((be4 n).take i).length:=(List.dropWhile_sublist _).length_le
 rw[List.length_take] at h1
 omega
def bytesF (n:Nat) (y:Nat) (L:Bytes) (k:Int):AF:=⟨[(0,.yld y),(1,.ref [.int .i64 (n:Int)]),(3,.bool (!L.isEmpty)),(4,.int .i64 k)],[]⟩
set_option maxRecDepth 100000 in
set_option maxHeartbeats 8000000 in
theorem bytesIt0 (n:Nat) (hn:n < 4294967296) (y:Nat) (J:Bytes→Mem→Prop) (M:Mem) (hraw:∀L N,J L N→∃o vs t,N.get y=some (.raw none o vs t)) (hY:∀L (x:UInt8) N,J L N→L.length < 4→AYields Tryz.prog y [.int .u8 (x.toNat:Int)] N fun e N'=>e=.ret (.bool true)∧J (L++[x]) N') (h0:J [] M):ACalls Tryz.prog 175 [.yld y,.ref [.int .i64 (n:Int)]] M (fun e N=>e=.ret (.tup [])∧J (nb n) N):=by
 refine acalls_of tabOK Tryz.func175 rfl (by decide) (by simp[Tryz.f175]) ?_
 repeat' (first|refine DW_A tabs rfl ?_|refine DW_nil ?_|refine W_A rfl ?_)
 refine W_loop (fun m f N=>m≤4∧J (nbI n (4 - m)) N∧f=bytesF n y (nbI n (4 - m)) ((m:Int) - 1)) (k:=4) ⟨Nat.le_refl _,(by simpa [nbI] using h0),rfl⟩ (Joint.le ?_ (Mem.le_refl _)) ?_
 ·unfold bytesF
  repeat (refine AF.le_cons rfl ?_)
  exact AF.le_nil rfl
 rintro m f N ⟨hm,hJ,rfl⟩
 match m,hm,hJ with
 |0,_,hJ=>
  unfold bytesF
  repeat' (first|refine DW_A tabs rfl ?_|refine DW_nil ?_|refine W_A rfl ?_)
  exact⟨rfl,_,rfl,rfl,hJ⟩
 |j+1,hm,hJ=>
  have hk:((j+1:Nat):Int) - 1=(j:Int):=by omega
  rw[hk]
  rw[show 4 - (j+1)=3 - j from by omega] at hJ ⊢
  have hL:=nbI_len n (3 - j)
  have hs:=nbI_succ n j (by omega)
  generalize nbI n (3 - j)=L at hJ hs hL
  have d0:decide ((0:Int)≤(j:Int))=true:=by simp
  have d1:decide ((j:Int) < (0:Int))=false:=by simp
  have g1:IntKind.wrap .i64 (8*(j:Int))=((8*j:Nat):Int):=(Go.Ab.wrap_small (by omega) (by omega)).trans (by omega)
  have g2:Int.fdiv (n:Int) ((2:Int)^(min (((8*j:Nat):Int)).toNat IntKind.i64.bits))=((n/256^j:Nat):Int):=by
   have e1:min (((8*j:Nat):Int)).toNat IntKind.i64.bits=8*j:=by
    show min _ 64=_
    omega
   rw[e1,fdiv_pow,Nat.pow_mul]
  have g3:IntKind.wrap .u8 ((n/256^j:Nat):Int)=((byteAt n j).toNat:Int):=byteAt_u8 n j _ rfl
  have g4:IntKind.wrap .i64 ((j:Int) - 1)=(j:Int) - 1:=Go.Ab.wrap_small (by omega) (by omega)
  generalize byteAt n j=b at g3 hs
  unfold bytesF
  obtain⟨o,vs,t0,hr⟩:=hraw L N hJ
  cases L with
  |nil=>
   cases hb:(b==0)
   ·have d2:(!decide ((b.toNat:Int)=0))=true:=by
     have:¬(b.toNat:Int)=0:=by
      intro h
      have:b=0:=UInt8.toNat_inj.1 (by simpa using h)
      simp[this] at hb
     simp only[this,decide_false,Bool.not_false]
    have e:nbI n (4 - j)=[b]:=by rw[hs,hb];rfl
    repeat' (first|refine DW_VB tabs rfl (by first|exact d0|exact d1|exact d2) ?_|refine DW_VI tabs rfl (by first|exact g1|exact g2|exact g3|exact g4) ?_|refine DW_A tabs rfl ?_|refine DW_nil ?_|refine W_A rfl ?_)
    refine DW_Y rfl hr (hY [] b N hJ (by simp)) ?_ (by rintro u M' ⟨h,_⟩;cases h)
    rintro u M' ⟨h,hJ'⟩
    cases h
    repeat' (first|refine DW_VB tabs rfl (by first|exact d0|exact d1|exact d2) ?_|refine DW_VI tabs rfl (by first|exact g1|exact g2|exact g3|exact g4) ?_|refine DW_A tabs rfl ?_|refine DW_nil ?_|refine W_A rfl ?_)
    refine⟨j,_,_,by omega,⟨by omega,(by rw[e];exact hJ'),rfl⟩,Joint.le ?_ (Mem.le_refl _)⟩
    rw[e]
    repeat (refine AF.le_cons rfl ?_)
    exact AF.le_nil rfl
   ·have d2:(!decide ((b.toNat:Int)=0))=false:=by
     have:b=0:=by simpa using hb
     simp[this]
    have e:nbI n (4 - j)=[]:=by rw[hs,hb];rfl
    repeat' (first|refine DW_VB tabs rfl (by first|exact d0|exact d1|exact d2) ?_|refine DW_VI tabs rfl (by first|exact g1|exact g2|exact g3|exact g4) ?_|refine DW_A tabs rfl ?_|refine DW_nil ?_|refine W_A rfl ?_)
    refine⟨j,_,_,by omega,⟨by omega,(by rw[e];exact hJ),rfl⟩,Joint.le ?_ (Mem.le_refl _)⟩
    rw[e]
    repeat (refine AF.le_cons rfl ?_)
    exact AF.le_nil rfl
  |cons a L=>
   have e:nbI n (4 - j)=a::L++[b]:=by rw[hs,if_neg (by simp)]
   repeat' (first|refine DW_VB tabs rfl (by first|exact d0|exact d1) ?_|refine DW_VI tabs rfl (by first|exact g1|exact g2|exact g3|exact g4) ?_|refine DW_A tabs rfl ?_|refine DW_nil ?_|refine W_A rfl ?_)
   refine DW_Y rfl hr (hY (a::L) b N hJ (by simp at hL ⊢;omega)) ?_ (by rintro u M' ⟨h,_⟩;cases h)
   rintro u M' ⟨h,hJ'⟩
   cases h
   repeat' (first|refine DW_VB tabs rfl (by first|exact d0|exact d1) ?_|refine DW_VI tabs rfl (by first|exact g1|exact g2|exact g3|exact g4) ?_|refine DW_A tabs rfl ?_|refine DW_nil ?_|refine W_A rfl ?_)
   refine⟨j,_,_,by omega,⟨by omega,(by rw[e];exact hJ'),rfl⟩,Joint.le ?_ (Mem.le_refl _)⟩
   rw[e]
   repeat (refine AF.le_cons rfl ?_)
   exact AF.le_nil rfl
theorem bytesIt (n:Nat) (hn:n < 4294967296):AIter Tryz.prog 175 [.ref [.int .i64 (n:Int)]] (fun b:UInt8=>[.int .u8 (b.toNat:Int)]) (fun L _=>L.length < 4) (nb n):=
 fun y J M hraw hY h0=>bytesIt0 n hn y J M hraw hY h0
def putN (n:Nat):Bytes:=UInt8.ofNat (nb n).length::nb n
def numA (n:Int):AV:=if 0≤n∧n≤4294967295 then .tup [.str (putN n.toNat),.int .i64 0] else .tup [.str [],.int .i64 1]
theorem closed_num (n:Int):Closed (numA n):=by
 unfold numA
 split<;>exact closed_tup (closed2 closed_str closed_int)
def jd:Nat→Nat
 |0=>0
 |e+1=>4+e
def NM (O:AObj) (e cap:Nat) (arr:List AV):Mem:=⟨4+e,[(1,.cells [.osl (jd e) 0 (1+e) cap 1]),(2,deferO),(3,O),(jd e,.cells arr)]⟩
def NK (O:AObj) (L:Bytes) (N:Mem):Prop:=∃cap arr,1+L.length≤cap∧arr.length=cap*1∧arr.take (1+L.length)=(0::L).map byteAV∧(NM O L.length cap arr).le N
set_option maxRecDepth 100000 in
set_option maxHeartbeats 8000000 in
theorem bytesF_ok (n:Int):APure Tryz.prog 115 [.int .i64 n] (.fn (.func 175) [] [.ref [.int .i64 n]]):=by
 intro M
 refine acalls_of tabOK Tryz.func115 rfl (by decide) (by simp[Tryz.f115]) ?_
 repeat' (first|refine DW_A tabs rfl ?_|refine DW_nil ?_|refine W_A rfl ?_)
 exact⟨rfl,_,rfl,rfl,rfl⟩
def NE (e cap:Nat) (arr:List AV):Mem:=⟨4+e,[(1,.cells [.osl (jd e) 0 (1+e) cap 1]),(2,deferO),(jd e,.cells arr)]⟩
theorem putN_eq {m e:Nat} (h:(nb m).length=e):putN m=UInt8.ofNat e::nb m:=by rw[←h];rfl
theorem writeAt1 {x y:AV} {l:List AV}:writeAt (y::l) 0 [x]=x::l:=by cases l<;>rfl
theorem writeAt0 {arr:List AV} {e:Nat} {x y:AV} {r:List AV} (h:arr.take (1+e)=y::r):(writeAt arr 0 [x]).take (1+e)=x::r:=by
 cases arr with
 |nil=>simp at h
 |cons a l=>
  rw[Nat.add_comm,List.take_succ_cons] at h
  cases h
  rw[writeAt1,Nat.add_comm,List.take_succ_cons]
theorem writeAt0l {arr:List AV} {e cap:Nat} {x:AV} (h:arr.length=cap*1) (hc:1+e≤cap):1+e≤(writeAt arr 0 [x]).length:=by
 cases arr with
 |nil=>simp at h;omega
 |cons a l=>
  rw[writeAt1]
  simp at h ⊢
  omega
set_option maxRecDepth 100000 in
set_option maxHeartbeats 8000000 in
theorem number_ok (n:Int):APure Tryz.prog 62 [.int .i64 n] (numA n):=by
 refine pure_sub (closed1 closed_int) (closed_num n) ?_
 refine acalls_of_m tabOK Tryz.func62 rfl (by decide) (by simp[Tryz.f62]) ?_
 have kb:=bytesF_ok n
 cases d1:decide (n < 0)
 ·cases d2:decide (4294967295 < n)
  ·have h1:=of_decide_eq_false d1
   have h2:=of_decide_eq_false d2
   unfold numA
   rw[if_pos ⟨by omega,by omega⟩]
   obtain⟨m,rfl⟩:=Int.eq_ofNat_of_zero_le (by omega:0≤n)
   repeat' (first|refine DW_VB tabs rfl (by first|exact d1|exact d2) ?_|refine DW_box 12 tabOK rfl ?_|refine DW_orow 12 tabOK rfl ?_|refine DW_oix tabOK rfl ?_|refine DW_olenA tabOK rfl ?_|refine DW_A tabs rfl ?_|refine DW_nil ?_|refine W_A rfl ?_|refine DW_C rfl kb ?_|refine DW_row tabOK rfl ?_|refine DW_app tabOK rfl rfl (by simp;omega) (by simp;omega) ?_|refine DW_app0 tabOK rfl (by simp;omega) (by simp;omega) ?_)
   refine W.le (g:=⟨[(4,.ptr 1 0),(14,.fn (.func 175) [] [.ref [.int .i64 (m:Int)]])],[]⟩) (N:=⟨2,[(1,.cells [.osl 0 0 1 1 1]),(0,.cells [.int .u8 0])]⟩) ?_ ?_ ?_
   ·repeat (refine AF.le_cons rfl ?_)
    exact AF.le_nil rfl
   ·exact Mem.le_cons rfl (Mem.le_cons rfl (Mem.le_nil rfl))
   refine W_rangeJ rfl (bytesIt m (by omega)) NK (fun _=>rfl) rfl ?_ ?_ ?_ ?_
   ·rintro O L N ⟨cap,arr,_,_,_,hN⟩
    exact hN.2 _ _ rfl
   ·intro O
    refine⟨1,[.int .u8 0],Nat.le_refl _,rfl,rfl,?_⟩
    exact Mem.le_cons rfl (Mem.le_cons rfl (Mem.le_cons rfl (Mem.le_cons rfl (Mem.le_nil rfl))))
   ·rintro O O1 L x N l ⟨cap,arr,c1,c2,c3,hN⟩ hL
    rcases (by omega:L.length=0∨L.length=1∨L.length=2∨L.length=3) with h|h|h|h
    all_goals
     rw[h] at c1 c3 hN
     refine W.le ⟨rfl,fun _=>Sub.refl⟩ hN ?_
     repeat' (first|refine DW_box 12 tabOK rfl ?_|refine DW_orow 12 tabOK rfl ?_|refine DW_oix tabOK rfl ?_|refine DW_olenA tabOK rfl ?_|refine DW_A tabs rfl ?_|refine DW_nil ?_|refine W_A rfl ?_|refine DW_row tabOK rfl ?_|refine DW_app tabOK rfl rfl (by simp;omega) (by simp;omega) ?_|refine DW_app0 tabOK rfl (by simp;omega) (by simp;omega) ?_)
     refine⟨rfl,?_⟩
     repeat' (first|refine DW_box 12 tabOK rfl ?_|refine DW_orow 12 tabOK rfl ?_|refine DW_oix tabOK rfl ?_|refine DW_olenA tabOK rfl ?_|refine DW_A tabs rfl ?_|refine DW_nil ?_|refine W_A rfl ?_|refine DW_row tabOK rfl ?_|refine DW_app tabOK rfl rfl (by simp;omega) (by simp;omega) ?_|refine DW_app0 tabOK rfl (by simp;omega) (by simp;omega) ?_)
     refine DW_oappA tabOK rfl c2 c1 (by simp) (by simp) ?_
     intro cap' arr' e1 e2 e3
     repeat' (first|refine DW_box 12 tabOK rfl ?_|refine DW_orow 12 tabOK rfl ?_|refine DW_oix tabOK rfl ?_|refine DW_olenA tabOK rfl ?_|refine DW_A tabs rfl ?_|refine DW_nil ?_|refine W_A rfl ?_|refine DW_row tabOK rfl ?_|refine DW_app tabOK rfl rfl (by simp;omega) (by simp;omega) ?_|refine DW_app0 tabOK rfl (by simp;omega) (by simp;omega) ?_)
     refine⟨rfl,rfl,cap',arr',by simpa [h] using e1,e2,?_,?_⟩
     ·rw[Nat.mul_one,Nat.mul_one,c3] at e3
      simp only[List.length_append,h,List.length_cons,List.length_nil]
      refine e3.trans ?_
      simp[flat,AV.cells,byteAV]
     ·simp only[List.length_append,h,List.length_cons,List.length_nil]
      exact Mem.le_cons rfl (Mem.le_cons rfl (Mem.le_cons rfl (Mem.le_cons rfl (Mem.le_nil rfl))))
   ·rintro O N ⟨cap,arr,c1,c2,c3,hN⟩
    have hle:=nbI_len m 4
    have hp:(nb m).length≤4:=hle
    rcases (by omega:(nb m).length=0∨(nb m).length=1∨(nb m).length=2∨(nb m).length=3∨(nb m).length=4) with h|h|h|h|h
    all_goals
     rw[h] at c1 c3 hN
     have hq:=putN_eq h
     obtain⟨a0,l0,rfl⟩:∃a l,arr=a::l:=by
      cases arr with
      |nil=>simp at c3
      |cons a l=>exact⟨a,l,rfl⟩
     refine⟨NE _ cap (a0::l0),Mem.le_trans (Mem.le_cons (i:=1) rfl (Mem.le_cons (i:=2) rfl (Mem.le_cons rfl (Mem.le_nil rfl)))) hN,rfl,?_⟩
     repeat' (first|refine DW_box 12 tabOK rfl ?_|refine DW_orow 12 tabOK rfl ?_|refine DW_oix tabOK rfl ?_|refine DW_olenA tabOK rfl ?_|refine DW_A tabs rfl ?_|refine DW_nil ?_|refine W_A rfl ?_|refine DW_row tabOK rfl ?_|refine DW_app tabOK rfl rfl (by simp;omega) (by simp;omega) ?_|refine DW_app0 tabOK rfl (by simp;omega) (by simp;omega) ?_)
     refine DW_ob2s tabOK rfl rfl rfl rfl rfl rfl rfl rfl rfl rfl rfl rfl rfl (bs:=putN m) ?_ (by exact writeAt0l c2 c1) c1 ?_
     ·rw[hq]
      exact writeAt0 c3
     repeat' (first|refine DW_box 12 tabOK rfl ?_|refine DW_orow 12 tabOK rfl ?_|refine DW_oix tabOK rfl ?_|refine DW_olenA tabOK rfl ?_|refine DW_A tabs rfl ?_|refine DW_nil ?_|refine W_A rfl ?_|refine DW_row tabOK rfl ?_|refine DW_app tabOK rfl rfl (by simp;omega) (by simp;omega) ?_|refine DW_app0 tabOK rfl (by simp;omega) (by simp;omega) ?_)
     refine marks1 (N:=⟨_,[]⟩) rfl (Mem.le_nil rfl) rfl ⟨_,rfl,_,rfl,SubC.of_closed (closed_tup (closed2 closed_str closed_int))⟩
  ·have h2:=of_decide_eq_true d2
   unfold numA
   rw[if_neg (by omega)]
   repeat' (first|refine DW_VB tabs rfl (by first|exact d1|exact d2) ?_|refine DW_box 12 tabOK rfl ?_|refine DW_orow 12 tabOK rfl ?_|refine DW_oix tabOK rfl ?_|refine DW_olenA tabOK rfl ?_|refine DW_A tabs rfl ?_|refine DW_nil ?_|refine W_A rfl ?_|refine DW_row tabOK rfl ?_|refine DW_app tabOK rfl rfl (by simp;omega) (by simp;omega) ?_|refine DW_app0 tabOK rfl (by simp;omega) (by simp;omega) ?_)
   exact⟨_,rfl,_,rfl,SubC.of_closed (closed_tup (closed2 closed_str closed_int))⟩
 ·have h1:=of_decide_eq_true d1
  unfold numA
  rw[if_neg (by omega)]
  repeat' (first|refine DW_VB tabs rfl d1 ?_|refine DW_box 12 tabOK rfl ?_|refine DW_orow 12 tabOK rfl ?_|refine DW_oix tabOK rfl ?_|refine DW_olenA tabOK rfl ?_|refine DW_A tabs rfl ?_|refine DW_nil ?_|refine W_A rfl ?_|refine DW_row tabOK rfl ?_|refine DW_app tabOK rfl rfl (by simp;omega) (by simp;omega) ?_|refine DW_app0 tabOK rfl (by simp;omega) (by simp;omega) ?_)
  exact⟨_,rfl,_,rfl,SubC.of_closed (closed_tup (closed2 closed_str closed_int))⟩
end Go.Proofs.YtbcaejhhgkcgpaaGreatDoor
namespace Go.Ab
open Go.RowKit
section
variable {P:Program} {τ:Tab} {ops:Array Oper} {cls:Nat→Cls} {Q:AX→AF→Mem→Prop} {ds:List ADef} {ls:List Nat} {i:Nat} {t:List (Nat×AV)} {M:Mem}
def stepSub (τ:Tab) (ops:Array Oper) (ds:List ADef) (i:Nat) (t:List (Nat×AV)):Option (Nat×List UInt8×Int×Int):=
 match ops[i]? with
 |some o=>(match wantedA ops ⟨t,ds⟩ o,o.dst,o.op with
  |some true,some d,.slice ty X L H none=>(match AF.ev ⟨t,ds⟩ X,lookup τ ty with
   |.str s,some ti=>(match ti.k,bnd (L.map (AF.ev ⟨t,ds⟩)) 0,bnd (H.map (AF.ev ⟨t,ds⟩)) s.length with
    |.str,some lo,some hi=>some (d,s,lo,hi)
    |_,_,_=>none)
   |_,_=>none)
  |_,_,_=>none)
 |none=>none
theorem DW_sub (hτ:TabOK P τ) {d:Nat} {s x:List UInt8} {lo hi:Int} (hs:stepSub τ ops ds i t=some (d,s,lo,hi)) (hx:0≤lo∧lo≤hi∧hi≤s.length∧(s.take hi.toNat).drop lo.toNat=x) (h:DW P ops cls Q ds ls ((d,.str x)::t) M):DW P ops cls Q ds (i::ls) t M:=by
 obtain⟨h0,h1,h2,rfl⟩:=hx
 unfold stepSub at hs
 split at hs
 ·rename_i o hi'
  split at hs
  ·rename_i d' ty X L H hw hd ho
   split at hs
   ·rename_i s' ti hX ht
    split at hs
    ·rename_i lo' hi2 hk hL hH
     cases hs
     exact DW_substr hτ hi' hw hd ho hX ht hk hL hH h0 h1 h2 h
    ·cases hs
   ·cases hs
  ·cases hs
 ·cases hs
def stepSlc (τ:Tab) (ops:Array Oper) (ds:List ADef) (i:Nat) (t:List (Nat×AV)):Option (Nat×Nat×List AV×Int×Int):=
 match ops[i]? with
 |some o=>(match wantedA ops ⟨t,ds⟩ o,o.dst,o.op with
  |some true,some d,.slice ty X L H none=>(match AF.ev ⟨t,ds⟩ X,lookup τ ty with
   |.sl sz xs tg,some ti=>(match ti.k with
    |.slice e=>(match lookup τ e with
     |some ei=>(match decide (sz=ei.size),bnd (L.map (AF.ev ⟨t,ds⟩)) 0,bnd (H.map (AF.ev ⟨t,ds⟩)) xs.length with
      |true,some lo,some hi=>some (d,sz,xs,lo,hi)
      |_,_,_=>none)
     |none=>none)
    |_=>none)
   |_,_=>none)
  |_,_,_=>none)
 |none=>none
theorem DW_slc (hτ:TabOK P τ) {d sz:Nat} {xs ys:List AV} {lo hi:Int} (hs:stepSlc τ ops ds i t=some (d,sz,xs,lo,hi)) (hx:0≤lo∧lo≤hi∧hi≤xs.length∧(xs.take hi.toNat).drop lo.toNat=ys) (h:DW P ops cls Q ds ls ((d,.sl sz ys .none)::t) M):DW P ops cls Q ds (i::ls) t M:=by
 obtain⟨h0,h1,h2,rfl⟩:=hx
 unfold stepSlc at hs
 split at hs
 ·rename_i o hi'
  split at hs
  ·rename_i d' ty X L H hw hd ho
   split at hs
   ·rename_i sz' xs' tg ti hX ht
    split at hs
    ·rename_i e hk
     split at hs
     ·rename_i ei he
      split at hs
      ·rename_i lo' hi2 hsz hL hH
       cases hs
       exact DW_slice hτ hi' hw hd ho hX ht hk he (of_decide_eq_true hsz) hL hH h0 h1 h2 h
      ·cases hs
     ·cases hs
    ·cases hs
   ·cases hs
  ·cases hs
 ·cases hs
def stepCat (ops:Array Oper) (ds:List ADef) (i:Nat) (t:List (Nat×AV)):Option (Nat×List UInt8×List UInt8):=
 match ops[i]? with
 |some o=>(match wantedA ops ⟨t,ds⟩ o,o.dst,o.op with
  |some true,some d,.binOp .add _ X Y _=>(match AF.ev ⟨t,ds⟩ X,AF.ev ⟨t,ds⟩ Y with
   |.str a,.str b=>some (d,a,b)
   |_,_=>none)
  |_,_,_=>none)
 |none=>none
theorem DW_cat {d:Nat} {a b x:List UInt8} (hs:stepCat ops ds i t=some (d,a,b)) (hx:a.length+b.length≤9223372036854775807∧a++b=x) (h:DW P ops cls Q ds ls ((d,.str x)::t) M):DW P ops cls Q ds (i::ls) t M:=by
 obtain⟨hl,rfl⟩:=hx
 unfold stepCat at hs
 split at hs
 ·rename_i o hi'
  split at hs
  ·rename_i d' xt X Y yt hw hd ho
   split at hs
   ·rename_i a' b' hX hY
    cases hs
    exact DW_concat hi' hw hd ho hX hY hl h
   ·cases hs
  ·cases hs
 ·cases hs
def stepB2s (τ:Tab) (ops:Array Oper) (ds:List ADef) (i:Nat) (t:List (Nat×AV)):Option (Nat×List AV):=
 match ops[i]? with
 |some o=>(match wantedA ops ⟨t,ds⟩ o,o.dst,o.op with
  |some true,some d,.convert s dt X=>(match AF.ev ⟨t,ds⟩ X,lookup τ s,lookup τ dt with
   |.sl 1 xs _,some si,some di=>(match si.k,di.k with
    |.slice e,.str=>(match lookup τ e with
     |some ei=>(match ei.k with
      |.int .u8=>some (d,xs)
      |_=>none)
     |none=>none)
    |_,_=>none)
   |_,_,_=>none)
  |_,_,_=>none)
 |none=>none
theorem DW_b2sA (hτ:TabOK P τ) {d:Nat} {xs:List AV} {bs:List UInt8} (hs:stepB2s τ ops ds i t=some (d,xs)) (hx:xs=bs.map byteAV) (h:DW P ops cls Q ds ls ((d,.str bs)::t) M):DW P ops cls Q ds (i::ls) t M:=by
 unfold stepB2s at hs
 split at hs
 ·rename_i o hi'
  split at hs
  ·rename_i d' s dt X hw hd ho
   split at hs
   ·rename_i xs' tg si di hX hsi hdi
    split at hs
    ·rename_i e hk1 hk2
     split at hs
     ·rename_i ei he
      split at hs
      ·rename_i hk3
       cases hs
       exact DW_b2s hτ hi' hw hd ho hsi hk1 he hk3 hdi hk2 hX hx h
      ·cases hs
     ·cases hs
    ·cases hs
   ·cases hs
  ·cases hs
 ·cases hs
end
end Go.Ab
namespace Go.Proofs.YtbcaejhhgkcgpaaGreatDoor
open Go.Ab
def getNum:Bytes→Option (Nat×Bytes)
 |[]=>none
 |c::r=>if 4 < c.toNat∨r.length < c.toNat∨(r.take c.toNat).head?=some 0 then none else some (num (r.take c.toNat),r.drop c.toNat)
theorem getNum_none {c:UInt8} {r:Bytes} (h:4 < c.toNat∨r.length < c.toNat∨(r.take c.toNat).head?=some 0):getNum (c::r)=none:=if_pos h
theorem getNum_some {c:UInt8} {r:Bytes} (h:¬(4 < c.toNat∨r.length < c.toNat∨(r.take c.toNat).head?=some 0)):getNum (c::r)=some (num (r.take c.toNat),r.drop c.toNat):=if_neg h
def gnA:Option (Nat×Bytes)→AV
 |some (n,r)=>.tup [.int .i64 (n:Int),.str r,.bool true]
 |none=>.tup [.int .i64 0,.str [],.bool false]
set_option maxRecDepth 100000 in
set_option maxHeartbeats 8000000 in
theorem getNumber_ok (s:Bytes) (hs:s.length < 4611686018427387904):APure Tryz.prog 68 [.str s] (gnA (getNum s)):=by
 intro M
 refine acalls_of tabOK Tryz.func68 rfl (by decide) (by simp[Tryz.f68]) ?_
 cases s with
 |nil=>
  have d1:(([]:Bytes)==[])=true:=rfl
  repeat' (first|refine DW_A tabs rfl ?_|refine DW_nil ?_|refine W_A rfl ?_|refine W_draw mixed [0,1,2,3,4,5,6,7,8,9,10,11,12,13] [.P,.P,.P,.P,.P,.P,.P,.P,.P,.P,.P,.P,.P,.P] rfl rfl (by kernel_rfl) ?_)
  exact⟨rfl,_,rfl,rfl,rfl⟩
 |cons c r=>
  have d1:((c::r)==[])=false:=rfl
  have hc:=c.toNat_lt
  have b1:=byte_i64 c
  have hl:(c::r).length=r.length+1:=rfl
  cases d2:decide ((4:Int) < (c.toNat:Int))
  ·have d2':=of_decide_eq_false d2
   cases d3:decide (((c::r).length:Int)≤(c.toNat:Int))
   ·have d3':=of_decide_eq_false d3
    have e1:IntKind.wrap .i64 (1+(c.toNat:Int))=((1+c.toNat:Nat):Int):=(Go.Ab.wrap_small (by omega) (by omega)).trans (by omega)
    have s1:(0:Int)≤1∧(1:Int)≤((1+c.toNat:Nat):Int)∧((1+c.toNat:Nat):Int)≤((c::r).length:Int)∧((c::r).take ((1+c.toNat:Nat):Int).toNat).drop (1:Int).toNat=r.take c.toNat:=by
     refine⟨by omega,by omega,by omega,?_⟩
     rw[Int.toNat_natCast,Nat.add_comm,List.take_succ_cons]
     rfl
    have s2:(0:Int)≤((1+c.toNat:Nat):Int)∧((1+c.toNat:Nat):Int)≤((c::r).length:Int)∧((c::r).length:Int)≤((c::r).length:Int)∧((c::r).take ((c::r).length:Int).toNat).drop ((1+c.toNat:Nat):Int).toNat=r.drop c.toNat:=by
     refine⟨by omega,by omega,by omega,?_⟩
     rw[Int.toNat_natCast,Int.toNat_natCast,List.take_length,Nat.add_comm,List.drop_succ_cons]
    have hlb:(r.take c.toNat).length=c.toNat:=by rw[List.length_take];omega
    have hnl:=num_lt 4 (r.take c.toNat) (by omega)
    by_cases h0:(r.take c.toNat).head?=some 0
    ·rw[getNum_none (.inr (.inr h0))]
     obtain⟨B,hB⟩:∃B,r.take c.toNat=0::B:=by
      cases hq:r.take c.toNat with
      |nil=>rw[hq] at h0;cases h0
      |cons a B=>rw[hq] at h0;cases h0;exact⟨B,rfl⟩
     have d4:(!((0::B:Bytes)==[]))=true:=rfl
     have d5:decide (((0:UInt8).toNat:Int)=0)=true:=rfl
     rw[hB] at s1
     repeat' (first|refine DW_VB tabs rfl (by first|exact d1|exact d2|exact d3|exact d4|exact d5) ?_|refine DW_VI tabs rfl (by first|exact b1|exact e1) ?_|refine DW_A tabs rfl ?_|refine DW_nil ?_|refine W_A rfl ?_|refine DW_by tabOK rfl (⟨Int.le_refl 0,rfl⟩) ?_|refine DW_sub tabOK rfl (s1) ?_|refine DW_sub tabOK rfl (s2) ?_|refine W_draw mixed [0,1,2,3,4,5,6,7,8,9,10,11,12,13] [.P,.P,.P,.P,.P,.P,.P,.P,.P,.P,.P,.P,.P,.P] rfl rfl (by kernel_rfl) ?_)
     exact⟨rfl,_,rfl,rfl,rfl⟩
    ·rw[getNum_some (by rintro (h|h|h);omega;omega;exact h0 h)]
     generalize hB:r.take c.toNat=B at s1 hlb hnl h0
     generalize hR:r.drop c.toNat=R at s2
     have h4:(!(B==[]))=false∨∃a,(!(B==[]))=true∧B[0]? =some a∧decide ((a.toNat:Int)=0)=false:=by
      cases B with
      |nil=>exact .inl rfl
      |cons a B=>
       refine .inr ⟨a,rfl,rfl,?_⟩
       rw[decide_eq_false_iff_not]
       intro h
       apply h0
       have:a=0:=UInt8.toNat_inj.1 (by simpa using h)
       rw[this]
       rfl
     rcases h4 with d4|⟨a,d4,ha,d5⟩
     focus
      repeat' (first|refine DW_VB tabs rfl (by first|exact d1|exact d2|exact d3|exact d4) ?_|refine DW_VI tabs rfl (by first|exact b1|exact e1) ?_|refine DW_A tabs rfl ?_|refine DW_nil ?_|refine W_A rfl ?_|refine DW_by tabOK rfl (⟨Int.le_refl 0,rfl⟩) ?_|refine DW_sub tabOK rfl (s1) ?_|refine DW_sub tabOK rfl (s2) ?_|refine W_draw mixed [0,1,2,3,4,5,6,7,8,9,10,11,12,13] [.P,.P,.P,.P,.P,.P,.P,.P,.P,.P,.P,.P,.P,.P] rfl rfl (by kernel_rfl) ?_)
     rotate_left
     focus
      repeat' (first|refine DW_VB tabs rfl (by first|exact d1|exact d2|exact d3|exact d4|exact d5) ?_|refine DW_VI tabs rfl (by first|exact b1|exact e1) ?_|refine DW_A tabs rfl ?_|refine DW_nil ?_|refine W_A rfl ?_|refine DW_by tabOK rfl (⟨Int.le_refl 0,rfl⟩) ?_|refine DW_by tabOK rfl (⟨Int.le_refl 0,ha⟩) ?_|refine DW_sub tabOK rfl (s1) ?_|refine DW_sub tabOK rfl (s2) ?_|refine W_draw mixed [0,1,2,3,4,5,6,7,8,9,10,11,12,13] [.P,.P,.P,.P,.P,.P,.P,.P,.P,.P,.P,.P,.P,.P] rfl rfl (by kernel_rfl) ?_)
     all_goals
      refine W_count B.length (fun i f N=>N=M∧(True)∧f=⟨[(5,.str B),(6,.str R),(7,.int .i64 ((num (B.take i):Nat):Int)),(45,.int .i64 (B.length:Int)),(46,.int .i64 (i:Int))],[]⟩) (Nat.zero_le _) ⟨rfl,trivial,rfl⟩ (Joint.le ?_ (Mem.le_refl _)) ?_
      ·skip
       repeat (refine AF.le_cons rfl ?_)
       exact AF.le_nil rfl
      rintro i f N hi ⟨rfl,hinv,rfl⟩
      by_cases h1:i < B.length
      ·have d1:decide ((i:Int) < (B.length:Int))=true:=by simp;omega
       have hx:B[i]? =some B[i]:=List.getElem?_eq_getElem h1
       have fi:=wrap_succ (i:=i) (by omega)
       have ht:=take_succ hx
       have hm:=List.getElem_mem h1
       generalize B[i]=b at hx ht hm
       have hml:num (B.take i) < 256^4:=num_lt 4 _ (by simp;omega)
       have hnm:=num_app (B.take i) b
       rw[←ht] at hnm
       generalize num (B.take i)=m at hnm hml
       have hb:=b.toNat_lt
       have g1:IntKind.wrap .i64 ((m:Int)*(2:Int)^(min (8:Int).toNat IntKind.i64.bits))=((m*256:Nat):Int):=by
        have:(2:Int)^(min (8:Int).toNat IntKind.i64.bits)=256:=rfl
        rw[this]
        exact (Go.Ab.wrap_small (by omega) (by omega)).trans (by omega)
       have g2:=byte_i64 b
       have g3:=or_256 m b (by omega)
       repeat' (first|refine DW_VB tabs rfl d1 ?_|refine DW_VI tabs rfl (by first|exact g1|exact g2|exact g3|exact fi) ?_|refine DW_A tabs rfl ?_|refine DW_nil ?_|refine W_A rfl ?_|refine DW_by tabOK rfl (byN hx) ?_|refine W_draw mixed [0,1,2,3,4,5,6,7,8,9,10,11,12,13] [.P,.P,.P,.P,.P,.P,.P,.P,.P,.P,.P,.P,.P,.P] rfl rfl (by kernel_rfl) ?_)
       refine⟨h1,_,_,⟨rfl,?_,rfl⟩,Joint.le ?_ (Mem.le_refl _)⟩
       ·trivial
       ·rw[hnm]
        repeat (refine AF.le_cons rfl ?_)
        exact AF.le_nil rfl
      ·have d1:decide ((i:Int) < (B.length:Int))=false:=by simp;omega
       obtain rfl:i=B.length:=by omega
       rw[List.take_length]
       repeat' (first|refine DW_VB tabs rfl d1 ?_|refine DW_A tabs rfl ?_|refine DW_nil ?_|refine W_A rfl ?_|refine W_draw mixed [0,1,2,3,4,5,6,7,8,9,10,11,12,13] [.P,.P,.P,.P,.P,.P,.P,.P,.P,.P,.P,.P,.P,.P] rfl rfl (by kernel_rfl) ?_)
       exact⟨rfl,_,rfl,rfl,rfl⟩
   ·have d3':=of_decide_eq_true d3
    rw[getNum_none (.inr (.inl (by omega)))]
    repeat' (first|refine DW_VB tabs rfl (by first|exact d1|exact d2|exact d3) ?_|refine DW_VI tabs rfl b1 ?_|refine DW_A tabs rfl ?_|refine DW_nil ?_|refine W_A rfl ?_|refine DW_by tabOK rfl (⟨Int.le_refl 0,rfl⟩) ?_|refine W_draw mixed [0,1,2,3,4,5,6,7,8,9,10,11,12,13] [.P,.P,.P,.P,.P,.P,.P,.P,.P,.P,.P,.P,.P,.P] rfl rfl (by kernel_rfl) ?_)
    exact⟨rfl,_,rfl,rfl,rfl⟩
  ·have d2':=of_decide_eq_true d2
   rw[getNum_none (.inl (by omega))]
   repeat' (first|refine DW_VB tabs rfl (by first|exact d1|exact d2) ?_|refine DW_VI tabs rfl b1 ?_|refine DW_A tabs rfl ?_|refine DW_nil ?_|refine W_A rfl ?_|refine DW_by tabOK rfl (⟨Int.le_refl 0,rfl⟩) ?_|refine W_draw mixed [0,1,2,3,4,5,6,7,8,9,10,11,12,13] [.P,.P,.P,.P,.P,.P,.P,.P,.P,.P,.P,.P,.P,.P] rfl rfl (by kernel_rfl) ?_)
   exact⟨rfl,_,rfl,rfl,rfl⟩
theorem byteAt_zero {n j:Nat} (h:n/256^j=0):byteAt n j=0:=by simp[byteAt,h]
theorem byteAt_pos {n j:Nat} (h:0 < n/256^j) (h2:n/256^j < 256):(byteAt n j==0)=false:=by
 rw[beq_eq_false_iff_ne]
 intro e
 have:(byteAt n j).toNat=0:=by rw[e];rfl
 simp[byteAt] at this
 omega
theorem nb_drop {n k:Nat} (hk:k≤4) (h0:n/256^k=0) (h1:k=0∨0 < n/256^(k - 1)):nb n=(be4 n).drop (4 - k):=by
 have z:∀j,k≤j→byteAt n j=0:=by
  intro j hj
  refine byteAt_zero ?_
  obtain⟨d,rfl⟩:=Nat.exists_eq_add_of_le hj
  rw[Nat.pow_add,←Nat.div_div_eq_div_mul,h0,Nat.zero_div]
 have p:∀j,k=j+1→(byteAt n j==0)=false:=by
  intro j e
  subst e
  refine byteAt_pos (by rcases h1 with h|h;omega;simpa using h) ?_
  rw[Nat.pow_succ,←Nat.div_div_eq_div_mul] at h0
  omega
 have dz:∀{b:UInt8} {l:Bytes},b=0→(b::l).dropWhile (·==0)=l.dropWhile (·==0):=by
  rintro b l rfl
  rfl
 have dp:∀{b:UInt8} {l:Bytes},(b==0)=false→(b::l).dropWhile (·==0)=b::l:=by
  intro b l h
  rw[List.dropWhile_cons]
  simp only[h]
  rfl
 show (be4 n).dropWhile (·==0)=_
 unfold be4
 rcases (by omega:k=0∨k=1∨k=2∨k=3∨k=4) with rfl|rfl|rfl|rfl|rfl
 ·rw[dz (z 3 (by omega)),dz (z 2 (by omega)),dz (z 1 (by omega)),dz (z 0 (by omega))];rfl
 ·rw[dz (z 3 (by omega)),dz (z 2 (by omega)),dz (z 1 (by omega)),dp (p 0 rfl)];rfl
 ·rw[dz (z 3 (by omega)),dz (z 2 (by omega)),dp (p 1 rfl)];rfl
 ·rw[dz (z 3 (by omega)),dp (p 2 rfl)];rfl
 ·rw[dp (p 3 rfl)];rfl
theorem be4_drop {n k:Nat} (hk:k < 4):(be4 n).drop (4 - (k+1))=byteAt n k::(be4 n).drop (4 - k):=by
 rcases (by omega:k=0∨k=1∨k=2∨k=3) with rfl|rfl|rfl|rfl<;>rfl
theorem be4_len {n k:Nat} (hk:k≤4):((be4 n).drop (4 - k)).length=k:=by
 rw[List.length_drop]
 show 4 - (4 - k)=k
 omega
set_option maxRecDepth 100000 in
set_option maxHeartbeats 8000000 in
theorem rNumber_ok (n:Int) (hn:n < 9223372036854775808) (hn0:-9223372036854775808≤n):APure Tryz.prog 65 [.int .i64 n] (numA n):=by
 intro M
 refine acalls_of tabOK Tryz.func65 rfl (by decide) (by simp[Tryz.f65]) ?_
 unfold numA
 cases d1:decide (n < 0)
 ·cases d2:decide (4294967295 < n)
  ·have h1:=of_decide_eq_false d1
   have h2:=of_decide_eq_false d2
   rw[if_pos ⟨by omega,by omega⟩]
   obtain⟨m,rfl⟩:=Int.eq_ofNat_of_zero_le (by omega:0≤n)
   repeat' (first|refine DW_VB tabs rfl (by first|exact d1|exact d2) ?_|refine DW_A tabs rfl ?_|refine DW_nil ?_|refine W_A rfl ?_|refine DW_row tabOK rfl ?_)
   refine W_loop (fun c f N=>∃k,c=4 - k∧k≤4∧(k=0∨0 < m/256^(k - 1))∧N=M∧f=⟨[(0,.int .i64 ((m/256^k:Nat):Int)),(4,.str ((be4 m).drop (4 - k))),(5,.int .i64 (k:Int))],[]⟩) (k:=4) ⟨0,rfl,by omega,.inl rfl,rfl,rfl⟩ (Joint.le ?_ (Mem.le_refl _)) ?_
   ·rw[show m/256^0=m from by simp]
    repeat (refine AF.le_cons rfl ?_)
    exact AF.le_nil rfl
   rintro c f N ⟨k,rfl,hk,hpos,rfl,rfl⟩
   by_cases h0:m/256^k=0
   ·have d3:decide ((0:Int) < ((m/256^k:Nat):Int))=false:=by rw[h0];rfl
    have hnb:=nb_drop hk h0 hpos
    have hl:=be4_len (n:=m) hk
    have w1:IntKind.wrap .u8 (k:Int)=(((UInt8.ofNat k).toNat:Nat):Int):=by
     rcases (by omega:k=0∨k=1∨k=2∨k=3∨k=4) with rfl|rfl|rfl|rfl|rfl<;>rfl
    have hp:putN m=[UInt8.ofNat k]++(be4 m).drop (4 - k):=by
     unfold putN
     rw[hnb,hl]
     rfl
    have hcat:[UInt8.ofNat k].length+((be4 m).drop (4 - k)).length≤9223372036854775807∧[UInt8.ofNat k]++(be4 m).drop (4 - k)=putN m:=⟨by rw[hl];simp;omega,hp.symm⟩
    repeat' (first|refine DW_VB tabs rfl d3 ?_|refine DW_VI tabs rfl w1 ?_|refine DW_A tabs rfl ?_|refine DW_nil ?_|refine W_A rfl ?_|refine DW_b2sA tabOK rfl ((rfl:_=List.map byteAV [UInt8.ofNat k])) ?_|refine DW_cat rfl (hcat) ?_|refine DW_row tabOK rfl ?_)
    exact⟨rfl,_,rfl,rfl,rfl⟩
   ·have d3:decide ((0:Int) < ((m/256^k:Nat):Int))=true:=decide_eq_true (Int.natCast_pos.2 (Nat.pos_of_ne_zero h0))
    have hk4:k < 4:=by
     refine Nat.lt_of_not_le fun h=>h0 ?_
     have:k=4:=by omega
     subst this
     exact Nat.div_eq_of_lt (by omega)
    have hq:m/256^(k+1)=m/256^k/256:=by rw[Nat.pow_succ,Nat.div_div_eq_div_mul]
    have r1:=tmod_256 (m/256^k)
    have b1:=byteAt_u8m m k _ rfl
    have hle:=Nat.div_le_self m (256^k)
    have q1:IntKind.wrap .i64 (Int.tdiv ((m/256^k:Nat):Int) 256)=((m/256^(k+1):Nat):Int):=by
     rw[hq]
     have h:Int.tdiv ((m/256^k:Nat):Int) 256=((m/256^k/256:Nat):Int):=Int.tdiv_eq_ediv_of_nonneg (Int.natCast_nonneg _)
     rw[h]
     clear r1 b1 d3 hq h
     generalize m/256^k=q at hle
     exact Go.Ab.wrap_small (by omega) (by omega)
    have fi:=wrap_succ (i:=k) (by omega)
    have hd:=be4_drop (n:=m) hk4
    have hcat:[byteAt m k].length+((be4 m).drop (4 - k)).length≤9223372036854775807∧[byteAt m k]++(be4 m).drop (4 - k)=(be4 m).drop (4 - (k+1)):=⟨by rw[be4_len hk];simp;omega,hd.symm⟩
    repeat' (first|refine DW_VB tabs rfl d3 ?_|refine DW_VI tabs rfl (by first|exact r1|exact b1|exact q1|exact fi) ?_|refine DW_A tabs rfl ?_|refine DW_nil ?_|refine W_A rfl ?_|refine DW_b2sA tabOK rfl ((rfl:_=List.map byteAV [byteAt m k])) ?_|refine DW_cat rfl (hcat) ?_|refine DW_row tabOK rfl ?_)
    refine⟨4 - (k+1),_,_,by omega,⟨k+1,rfl,by omega,.inr (by simpa using Nat.pos_of_ne_zero h0),rfl,rfl⟩,Joint.le ?_ (Mem.le_refl _)⟩
    repeat (refine AF.le_cons rfl ?_)
    exact AF.le_nil rfl
  ·have h2:=of_decide_eq_true d2
   rw[if_neg (by omega)]
   repeat' (first|refine DW_VB tabs rfl (by first|exact d1|exact d2) ?_|refine DW_A tabs rfl ?_|refine DW_nil ?_|refine W_A rfl ?_|refine DW_row tabOK rfl ?_)
   exact⟨rfl,_,rfl,rfl,rfl⟩
 ·have h1:=of_decide_eq_true d1
  rw[if_neg (by omega)]
  repeat' (first|refine DW_VB tabs rfl d1 ?_|refine DW_A tabs rfl ?_|refine DW_nil ?_|refine W_A rfl ?_|refine DW_row tabOK rfl ?_)
  exact⟨rfl,_,rfl,rfl,rfl⟩
end Go.Proofs.YtbcaejhhgkcgpaaGreatDoor
