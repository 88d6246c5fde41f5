/- Parts of the proof, one behind the other. No further condition. -/
import Derived.Test.YtbcaejhhgkcgpaaDoorK09
set_option linter.unusedVariables false
set_option linter.unusedSimpArgs false
namespace Go.Ab
open Go.RowKit
theorem opE_buildO {P:Program} {τ:Tab} (hτ:TabOK P τ) {t e:TypeId} {ti ei:TI} (ht:lookup τ t=some ti) (hk:ti.k=.slice e) (he:lookup τ e=some ei) (hpos:0 < ei.size) {n:Nat} {ps:Array (Nat×Operand)} {ty:TypeId} {ρ:Operand→AV} {M:Mem}
  (hn:ps.size=n) (hidx:idxOK ps.toList 0=true) (hsz:sizedAll ei.size (ps.toList.map fun p=>ρ p.2)=true) (hbig:n*ei.size≤16777216):
  OpE P (.buildSlice t n ps) ty ρ M (.osl M.next 0 n n ei.size) (M.push (.cells (flat (ps.toList.map fun p=>ρ p.2)))):=by
 intro μ F w ρc o hg ho hty hr
 obtain⟨ft,dt,zt,HT⟩:=TI.spec hτ ht
 obtain⟨fe,de,ze,HE⟩:=TI.spec hτ he
 have hfit:=HT.fits
 rw[hk] at hfit
 have hdd:dt=.slice e:=by
  cases dt<;>simp[TK.fits] at hfit
  rw[hfit]
 subst hdd
 have hrp:∀p,p∈ps.toList→Rep μ F w (ρ p.2) (ρc p.2):=by
  intro p hp
  refine hr p.2 ?_
  simp only[Op.operands]
  rw[List.mem_toArray,List.mem_map]
  exact⟨p,hp,rfl⟩
 have hsp:=sizedAll_spec hsz
 have hzc:=HE.zcells μ F w
 have hzs:ze.cells.size=ei.size:=by rw[hzc.size,HE.len]
 let z0:Array Value:=(Array.range (n*ei.size)).map fun k=>ze.cells[k%ze.cells.size]!
 have hz0:Cells μ F w (List.replicate (n*ei.size) .top) z0:=by
  refine⟨by simp[z0],?_,?_⟩
  ·intro i u hu
   have hi:i < n*ei.size:=by
    have:=(Array.getElem?_eq_some_iff.1 hu).1
    simpa [z0] using this
   have hm:i%ze.cells.size < ze.cells.size:=Nat.mod_lt _ (by omega)
   simp only[z0,Array.getElem?_map,Array.getElem?_range,hi,if_true,Option.map_some,Option.some.injEq] at hu
   rw[getElem!_pos ze.cells _ hm] at hu
   exact hzc.one _ u (by rw[Array.getElem?_eq_getElem hm,hu])
  ·intro i y u hy hu
   rw[List.getElem?_replicate] at hy
   split at hy<;>cases hy
   exact .top _
 have hlen:(ps.toList.map fun p=>(p.1,ρ p.2)).length=n:=by simp[hn]
 have hfull:=afill_full ei.size (ps.toList.map fun p=>(p.1,ρ p.2)) 0 [] (by simp) (by
  have:∀(l:List (Nat×Operand)) (k:Nat),idxOK l k=true→idxOK (l.map fun p=>(p.1,ρ p.2)) k=true:=by
   intro l
   induction l with
   |nil=>intro k _;rfl
   |cons p r ih=>
    intro k h
    simp only[idxOK,List.map_cons,Bool.and_eq_true] at h ⊢
    exact⟨h.1,ih _ h.2⟩
  exact this _ _ hidx) (by
  intro p hp
  obtain⟨q,hq,rfl⟩:=List.mem_map.1 hp
  exact hsp _ (List.mem_map.2 ⟨q,hq,rfl⟩))
 rw[hlen,List.nil_append,List.nil_append,List.map_map] at hfull
 obtain⟨c',hc',hcells⟩:=fill_rel (μ:=μ) (F:=F) (w:=w) (place:=placeA ei.size) (placec:=fun i=>some (i*ei.size,ei.size)) (ρ:=ρ) (ρc:=ρc) (fun i q hq=>hq) ps.toList _ z0 _ hz0 hrp hfull
 have hb:=below_push w (.cells c' e)
 have hnew:({w with heap:=w.heap.push (.cells c' e)}:World).heap[w.heap.size]? =some (.cells c' e (0,0)):=by simp
 have hpm:(ps.map fun p=>(p.1,ρc p.2)).toList=ps.toList.map fun p=>(p.1,ρc p.2):=by simp
 obtain⟨hev,hG⟩:=gam_push hg hb (l:=flat (ps.toList.map fun p:Nat×Operand=>ρ p.2)) (Nat.le_refl _) hnew hcells.size hcells.one hcells.rep
 refine⟨_,_,.slice (some ⟨w.heap.size,0,none⟩) n n,_,?_,.inl rfl,hev,hG,rep_osl (by simp[Mu.put])⟩
 have hze:(zeroValue e).run P w=.ok ze w:=by simp[zeroValue,typeInfo,HE.info,HE.zero]
 simp only[execOp,ho,Instr.buildSlice,Sem.run_bind,run_underlying HT.und,Result.andThen_ok,run_sizeOf w HE.info,HE.cellsOf]
 rw[if_neg (by simpa using hbig)]
 by_cases h0:n*ei.size=0
 ·rw[if_pos h0]
  have hz':(Array.range (n*ei.size)).map (fun k=>(#[]:Array Value)[k%(#[]:Array Value).size]!)=z0:=by simp[z0,h0]
  simp only[Sem.run_bind,Sem.run_pure,Result.andThen_ok,hz',hpm,hc']
  simp[newRow]
 ·rw[if_neg h0]
  simp only[Sem.run_bind,hze,Sem.run_pure,Result.andThen_ok]
  have hz':(Array.range (n*ei.size)).map (fun k=>ze.cells[k%ze.cells.size]!)=z0:=rfl
  simp only[hz',hpm,hc']
  simp[newRow]
section
variable {P:Program} {τ:Tab} {ops:Array Oper} {cls:Nat→Cls} {Q:AX→AF→Mem→Prop} {ds:List ADef} {ls:List Nat} {i:Nat} {t:List (Nat×AV)} {M:Mem}
def olitOp (τ:Tab) (ds:List ADef) (t:List (Nat×AV)) (M:Mem) (d:Nat) (ty:TypeId) (n:Nat) (ps:Array (Nat×Operand)):Option (List (Nat×AV)×List AV):=
 match lookup τ ty with
 |some ti=>
  match ti.k with
  |.slice e=>
   match lookup τ e with
   |some ei=>
    match decide (0 < ei.size),decide (ps.size=n),idxOK ps.toList 0,sizedAll ei.size (ps.toList.map fun p=>AF.ev ⟨t,ds⟩ p.2),decide (n*ei.size≤16777216),forceL (flat (ps.toList.map fun p=>AF.ev ⟨t,ds⟩ p.2)) with
    |true,true,true,true,true,some ys=>some ((d,.osl M.next 0 n n ei.size)::t,ys)
    |_,_,_,_,_,_=>none
   |none=>none
  |_=>none
 |none=>none
def stepOlit (τ:Tab) (ops:Array Oper) (cls:Nat→Cls) (ds:List ADef) (i:Nat) (t:List (Nat×AV)) (M:Mem) (d:Nat):Option (List (Nat×AV)×List AV):=
 match ops[i]? with
 |some o=>
  match wantedA ops ⟨t,ds⟩ o,decide (o.dst=some d),isE (cls i),o.op with
  |some true,true,true,.buildSlice ty n ps=>olitOp τ ds t M d ty n ps
  |_,_,_,_=>none
 |none=>none
theorem DW_orow (d:Nat) (hτ:TabOK P τ) {t':List (Nat×AV)} {ys:List AV} (hs:stepOlit τ ops cls ds i t M d=some (t',ys)) (h:DW P ops cls Q ds ls t' (M.push (.cells ys))):DW P ops cls Q ds (i::ls) t M:=by
 unfold stepOlit at hs
 split at hs
 ·rename_i o hi
  split at hs
  ·rename_i ty n ps hw hd hc ho
   unfold olitOp at hs
   split at hs
   ·rename_i ti ht
    split at hs
    ·rename_i e hk
     split at hs
     ·rename_i ei he
      split at hs
      ·rename_i ys' hp hn hidx hsz hbig hys
       cases hs
       have:=forceL_spec hys
       subst this
       exact DW_ofE hi hw (of_decide_eq_true hd) hc (by rw[ho];exact opE_buildO hτ ht hk he (of_decide_eq_true hp) (of_decide_eq_true hn) hidx hsz (of_decide_eq_true hbig)) h
      ·cases hs
     ·cases hs
    ·cases hs
   ·cases hs
  ·cases hs
 ·cases hs
structure OApp where
 d:Nat
 id:Nat
 n:Nat
 cap:Nat
 sz:Nat
 bt:Nat
 l:List AV
 ys:List AV
def oappOp (τ:Tab) (ds:List ADef) (t:List (Nat×AV)) (M:Mem) (d:Nat) (ty tx:TypeId) (s y:Operand):Option OApp:=
 match AF.ev ⟨t,ds⟩ s with
 |.osl id 0 n cap sz=>
  match M.get id,lookup τ ty,lookup τ tx with
  |some (.cells l),some ti,some xi=>
   match ti.k with
   |.slice e=>
    match lookup τ e with
    |some ei=>
     match decide (0 < ei.size),srcFits xi.k (AF.ev ⟨t,ds⟩ y),decide (sz=ei.size),srcOf ei.size (AF.ev ⟨t,ds⟩ y) with
     |true,true,true,some ys=>some ⟨d,id,n,cap,sz,ei.bytes,l,ys⟩
     |_,_,_,_=>none
    |none=>none
   |_=>none
  |_,_,_=>none
 |_=>none
def stepOapp (τ:Tab) (ops:Array Oper) (cls:Nat→Cls) (ds:List ADef) (i:Nat) (t:List (Nat×AV)) (M:Mem):Option OApp:=
 match ops[i]? with
 |some o=>
  match wantedA ops ⟨t,ds⟩ o,o.dst,isE (cls i),o.op with
  |some true,some d,true,.call {callee:=.builtin .append,args:=⟨[s,y]⟩,argTypes:=⟨[ty,tx]⟩}=>oappOp τ ds t M d ty tx s y
  |_,_,_,_=>none
 |none=>none
theorem DW_oappA (hτ:TabOK P τ) {d id n cap sz bt:Nat} {l ys:List AV} (hs:stepOapp τ ops cls ds i t M=some ⟨d,id,n,cap,sz,bt,l,ys⟩) (hl:l.length=cap*sz) (hnc:n≤cap) (hb:(n+ys.length)*bt≤140737488355328) (hlen:n+ys.length≤140737488355328)
  (h:∀(cap':Nat) (l':List AV),n+ys.length≤cap'→l'.length=cap'*sz→l'.take ((n+ys.length)*sz)=l.take (n*sz)++flat ys→DW P ops cls Q ds ls ((d,.osl M.next 0 (n+ys.length) cap' sz)::t) ((M.drop id).push (.cells l'))):DW P ops cls Q ds (i::ls) t M:=by
 unfold stepOapp at hs
 split at hs
 ·rename_i o hi
  split at hs
  ·rename_i d' s y ty tx hw hd hc ho
   unfold oappOp at hs
   split at hs
   ·rename_i id' n' cap' sz' hS
    split at hs
    ·rename_i l' ti xi hM ht hxi
     split at hs
     ·rename_i e hk
      split at hs
      ·rename_i ei he
       split at hs
       ·rename_i ys' hp hf hsz hX
        cases hs
        exact DW_oapp hτ hi hw hd hc ho hS hM ht hk he hp hxi (of_decide_eq_true hsz) hf hX hl hnc hb hlen h
       ·cases hs
      ·cases hs
     ·cases hs
    ·cases hs
   ·cases hs
  ·cases hs
 ·cases hs
def stepOix (τ:Tab) (ops:Array Oper) (cls:Nat→Cls) (ds:List ADef) (i:Nat) (t:List (Nat×AV)) (M:Mem):Option (List (Nat×AV)):=
 match ops[i]? with
 |some o=>
  match wantedA ops ⟨t,ds⟩ o,o.dst,notP (cls i),o.op with
  |some true,some d,true,.indexAddr ty X I=>(match AF.ev ⟨t,ds⟩ X,AF.ev ⟨t,ds⟩ I with
   |.osl id off n cap sz,.int k j=>(match M.get id,lookup τ ty with
    |some (.cells l),some ti=>(match ti.k with
     |.slice e=>(match lookup τ e with
      |some ei=>(match decide (0≤j),decide (j < n),decide (sz=ei.size) with
       |true,true,true=>some ((d,.ptr id (off+j.toNat*sz))::t)
       |_,_,_=>none)
      |none=>none)
     |_=>none)
    |_,_=>none)
   |_,_=>none)
  |_,_,_,_=>none
 |none=>none
theorem DW_oix (hτ:TabOK P τ) {t':List (Nat×AV)} (hs:stepOix τ ops cls ds i t M=some t') (h:DW P ops cls Q ds ls t' M):DW P ops cls Q ds (i::ls) t M:=by
 unfold stepOix at hs
 split at hs
 ·rename_i o hi
  split at hs
  ·rename_i d ty X I hw hd hc ho
   split at hs
   ·rename_i id off n cap sz k j hX hI
    split at hs
    ·rename_i l ti hM ht
     split at hs
     ·rename_i e hk
      split at hs
      ·rename_i ei he
       split at hs
       ·rename_i h0 hj hsz
        cases hs
        exact DW_ofR hi hw hd hc (by rw[ho];exact opR_oindex hτ ht hk he hX hM hI (of_decide_eq_true h0) (of_decide_eq_true hj) (of_decide_eq_true hsz)) h
       ·cases hs
      ·cases hs
     ·cases hs
    ·cases hs
   ·cases hs
  ·cases hs
 ·cases hs
def stepOlen (τ:Tab) (ops:Array Oper) (cls:Nat→Cls) (ds:List ADef) (i:Nat) (t:List (Nat×AV)) (M:Mem):Option (List (Nat×AV)):=
 match ops[i]? with
 |some o=>
  match wantedA ops ⟨t,ds⟩ o,o.dst,notP (cls i),o.op with
  |some true,some d,true,.call {callee:=.builtin .len,args:=⟨[x]⟩,argTypes:=⟨[ty]⟩}=>(match AF.ev ⟨t,ds⟩ x with
   |.osl id off n cap sz=>(match M.get id,lookup τ ty with
    |some (.cells l),some ti=>(match ti.k with
     |.slice e=>some ((d,.int .i64 n)::t)
     |_=>none)
    |_,_=>none)
   |_=>none)
  |_,_,_,_=>none
 |none=>none
theorem DW_olenA (hτ:TabOK P τ) {t':List (Nat×AV)} (hs:stepOlen τ ops cls ds i t M=some t') (h:DW P ops cls Q ds ls t' M):DW P ops cls Q ds (i::ls) t M:=by
 unfold stepOlen at hs
 split at hs
 ·rename_i o hi
  split at hs
  ·rename_i d x ty hw hd hc ho
   split at hs
   ·rename_i id off n cap sz hX
    split at hs
    ·rename_i l ti hM ht
     split at hs
     ·rename_i e hk
      cases hs
      exact DW_olen hτ hi hw hd hc ho hX hM ht hk h
     ·cases hs
    ·cases hs
   ·cases hs
  ·cases hs
 ·cases hs
end
theorem rep_frozen {μ μ2:Mu} {F:Frm} {w:World} {id b n cap:Nat} {M:Mem} {l xs:List AV} (hg:Gam μ F M w) (hM:M.get id=some (.cells l)) (hb:μ id=some (.at b)) (hx:l.take n=xs) (hnl:n≤l.length) (hnc:n≤cap) (h1:∀x,x∈xs→x.cells=[x])
  (k2:∀b o,Own μ2 b o→∃i,i≠id∧(μ i=some (.at b)∨∃e g,μ i=some (.spare (some (b,e)) g)∧e≤o)) (k3:Evo w μ w μ2):Rep μ2 F w (.sl 1 xs .none) (.slice (some ⟨b,0,none⟩) n cap):=by
 obtain⟨b',c,ty,o1,o2,o3,o4,o5⟩:=hg.obj id l hM
 rw[hb] at o1
 cases o1
 have hlen:xs.length=n:=by rw[←hx,List.length_take];omega
 rw[←hlen]
 have key:∀(p:Nat) (x:AV) (q:Nat) (y:AV),xs[p]? =some x→x.cells[q]? =some y→q=0∧y=x∧l[p]? =some x∧p < l.length:=by
  intro p x q y hp hq
  rw[h1 x (List.mem_of_getElem? hp)] at hq
  have hpn:p < n:=by rw[←hlen];exact (List.getElem?_eq_some_iff.1 hp).1
  rw[←hx,List.getElem?_take,if_pos hpn] at hp
  cases q with
  |zero=>simp at hq;exact⟨rfl,hq.symm,hp,by omega⟩
  |succ q=>simp at hq
 have hcell:∀p,p < l.length→c[p]? =some (c.getD p undef):=by
  intro p hp
  have:p < c.size:=by omega
  simp[Array.getD,this]
 refine .sl 1 xs .none _ _ ⟨b,0,none⟩ (fun p=>c.getD p undef) ?_ (by omega) (fun _=>⟨rfl,rfl⟩) ?_ ?_ ?_ trivial
 ·intro x hx'
  rw[h1 x hx']
  rfl
 ·intro p x q y hp hq
  obtain⟨rfl,rfl,h4,h5⟩:=key p x q y hp hq
  rw[Nat.mul_one,Nat.add_zero]
  exact o4 p _ (hcell p h5)
 ·intro p x q y hp hq
  obtain⟨rfl,rfl,h4,h5⟩:=key p x q y hp hq
  simp only[Nat.mul_one,Nat.add_zero,Nat.zero_add]
  refine⟨by rw[cell_mk o2];exact hcell p h5,hg.frm b p ⟨id,.inl hb⟩,?_⟩
  intro ho
  obtain⟨i',hi',h6|⟨e',g',h6,_⟩⟩:=k2 b p ho
  ·exact hi' (hg.inj i' id b (.inl h6) (.inl hb))
  ·exact hi' (hg.inj i' id b (.inr ⟨e',g',h6⟩) (.inl hb))
 ·intro p x q y hp hq
  obtain⟨rfl,rfl,h4,h5⟩:=key p x q y hp hq
  rw[Nat.mul_one,Nat.add_zero]
  exact (o5 p _ _ h4 (hcell p h5)).evo k3
end Go.Ab
namespace Go.Ab
open Go.RowKit
def AIter (P:Program) (gf:FuncId) (lb:List AV) {α:Type} (enc:α→List AV) (ok:List α→α→Prop) (out:List α):Prop:=
 ∀(y:Nat) (J:List α→Mem→Prop) (M:Mem),(∀L N,J L N→∃o vs t,N.get y=some (.raw none o vs t))→
  (∀L x N,J L N→ok L x→AYields P y (enc x) N fun e N'=>e=.ret (.bool true)∧J (L++[x]) N')→J [] M→
  ACalls P gf (.yld y::lb) M fun e N=>e=.ret (.tup [])∧J out N
theorem W_rangeJ {P:Program} {n:Nat} {g:Operand} {ps:Array Tmp} {assign body:Code} {Q:AX→AF→Mem→Prop} {f:AF} {M:Mem} {gf:FuncId} {lb:List AV} {α:Type} {enc:α→List AV} {ok:List α→α→Prop} {out:List α}
  (hg:f.ev g=.fn (.func gf) [] lb) (hit:AIter P gf lb enc ok out) (K:AObj→List α→Mem→Prop) (hps:∀x,ps.toList.length=(enc x).length) (hpn:(ps.toList.all fun p=>decide (p < n))=true)
  (hK:∀O L N,K O L N→N.get (M.next+1)=some O) (h0:∀O,K O [] ⟨M.next+2,(M.next+1,O)::(M.next,deferO)::M.objs⟩)
  (hround:∀(O O1:AObj) (L:List α) (x:α) (N:Mem) (l:Nat),K O L N→ok L x→
   W (some l) P n assign (thenX (fun f1 M1=>M1.get (M.next+1)=some O∧W (some l) P n body (fun e _ N'=>e=.normal∧N'.get (M.next+1)=some O1∧K O (L++[x]) (N'.set (M.next+1) O)) f1 (M1.set (M.next+1) O1)) (fun _ _ _=>False)) ⟨parT ps.toList (enc x) f.t,[]⟩ N)
  (hdone:∀O N,K O out N→∃N',N'.le N∧N'.get (M.next+1)=none∧Q .normal ⟨f.t,markD M.next::f.d⟩ N'):
  W none P n (.rangeFunc g ps assign body) Q f M:=by
 refine W_range hg fun fn tmps D hn=>?_
 refine (hit (M.next+1) (fun L N=>K (.raw none (.loop (loopR fn tmps ps assign body D .ready none)) tmps f.t) L N) _ (fun L N h=>⟨_,_,_,hK _ _ _ h⟩) ?_ (h0 _)).mono ?_
 ·intro L x N hJ hok
  refine ayields_of (hK _ _ _ hJ) hn (hps x) hpn fun l=>?_
  refine (hround _ (.raw none (.loop (loopR fn tmps ps assign body D .busy none)) tmps f.t) L x N l hJ hok).mono ?_
  rintro x1 f1 M1 h1
  cases x1 with
  |normal=>
   refine⟨h1.1,h1.2.mono ?_⟩
   rintro x2 f2 M2 ⟨rfl,h3,h4⟩
   exact⟨h3,rfl,h4⟩
  |exit id=>exact h1.elim
  |ret=>exact h1.elim
  |panic v=>exact h1.elim
 ·rintro e N ⟨rfl,hJ⟩
  obtain⟨N',h1,h2,h3⟩:=hdone _ N hJ
  exact⟨.ready,none,N',by simp,hK _ _ _ hJ,h1,h2,h3⟩
theorem marks1 {K:Mem→Prop} {y:Nat} {M N:Mem} (hM:M.get y=some deferO) (hN:N.le M) (hy:N.get y=none) (h:K N):MarksOK K [markD y] M:=⟨y,N,rfl,hM,hN,hy,h⟩
theorem Mem.le_trans {A B C:Mem} (h:A.le B) (k:B.le C):A.le C:=⟨h.1.trans k.1,fun i o hi=>k.2 i o (h.2 i o hi)⟩
theorem opR_ob2s {P:Program} {τ:Tab} (hτ:TabOK P τ) {s d e:TypeId} {si di ei:TI} (hs:lookup τ s=some si) (hks:si.k=.slice e) (he:lookup τ e=some ei) (hke:ei.k=.int .u8) (hd:lookup τ d=some di) (hkd:di.k=.str) {X:Operand} {ty:TypeId} {ρ:Operand→AV} {M:Mem} {id n cap:Nat} {l:List AV} {bs:List UInt8}
  (hX:ρ X=.osl id 0 n cap 1) (hM:M.get id=some (.cells l)) (hl:l.take n=bs.map byteAV) (hnl:n≤l.length) (hnc:n≤cap):OpR P (.convert s d X) ty ρ M (.str bs):=by
 intro μ F w ρc o hg ho hty hr
 have hx:=hr X (by simp[Op.operands])
 rw[hX] at hx
 obtain⟨b,hb,hv⟩:=gam_osl hg hM hx
 have hid:id < M.next:=(hg.dom id).1 (by rw[hb];simp)
 obtain⟨μ2,k1,k2,k3,k4⟩:=gam_kill hg hid
 have hG:=k4 (M.drop id) rfl (fun j=>Mem.get_drop M id j)
 have hrep:=rep_frozen hg hM hb hl hnl hnc (fun x hx=>by obtain⟨c,_,rfl⟩:=List.mem_map.1 hx;rfl) k2 k3
 obtain⟨v,w',h1,h2,h3⟩:=opP_b2s (P:=P) hτ hs hks he hke hd hkd (x:=X) (ty:=ty) (ρ:=fun _=>.sl 1 (bs.map byteAV) .none) rfl μ2 F w ρc o hG.fit ho hty (fun y hy=>by
  have:y=X:=by simpa [Op.operands] using hy
  subst this
  rw[hv]
  exact hrep)
 refine⟨v,w',h1,h2,?_⟩
 cases h3
 exact .str _
theorem DW_ob2s {P:Program} {τ:Tab} {ops:Array Oper} {cls:Nat→Cls} {Q:AX→AF→Mem→Prop} {ds:List ADef} {ls:List Nat} {i:Nat} {o:Oper} {t:List (Nat×AV)} {M:Mem} (hτ:TabOK P τ) {d:Nat} (hi:ops[i]? =some o) (hw:wantedA ops ⟨t,ds⟩ o=some true) (hd:o.dst=some d) (hc:notP (cls i)=true)
  {s e dt:TypeId} {X:Operand} (ho:o.op=.convert s dt X) {si di ei:TI} (hs:lookup τ s=some si) (hks:si.k=.slice e) (he:lookup τ e=some ei) (hke:ei.k=.int .u8) (hdt:lookup τ dt=some di) (hkd:di.k=.str) {id n cap:Nat} {l:List AV} {bs:List UInt8}
  (hX:AF.ev ⟨t,ds⟩ X=.osl id 0 n cap 1) (hM:M.get id=some (.cells l)) (hl:l.take n=bs.map byteAV) (hnl:n≤l.length) (hnc:n≤cap) (h:DW P ops cls Q ds ls ((d,.str bs)::t) M):DW P ops cls Q ds (i::ls) t M:=
 DW_ofR hi hw hd hc (by rw[ho];exact opR_ob2s hτ hs hks he hke hdt hkd hX hM hl hnl hnc) h
end Go.Ab
namespace Go.Proofs.YtbcaejhhgkcgpaaDoor
open Go.Ab
def nbI (n i:Nat):Bytes:=((be4 n).take i).dropWhile (·==0)
def nb (n:Nat):Bytes:=nbI n 4
theorem dropWhile_snoc {p:UInt8→Bool} (b:UInt8):∀l:Bytes,(l++[b]).dropWhile p=if l.dropWhile p=[] then (if p b=true then [] else [b]) else l.dropWhile p++[b]
 |[]=>by cases h:p b<;>simp[List.dropWhile,h]
 |a::l=>by
  cases h:p a
  ·simp[List.dropWhile,h]
  ·simpa [List.dropWhile,h] using dropWhile_snoc b l
theorem nbI_succ (n j:Nat) (h:j < 4):nbI n (4 - j)=if nbI n (3 - j)=[] then (if (byteAt n j==0)=true then [] else [byteAt n j]) else nbI n (3 - j)++[byteAt n j]:=by
 have e:(be4 n).take (4 - j)=(be4 n).take (3 - j)++[byteAt n j]:=by
  match j,h with
  |0,_=>rfl
  |1,_=>rfl
  |2,_=>rfl
  |3,_=>rfl
 unfold nbI
 rw[e,dropWhile_snoc]
theorem nbI_len (n i:Nat):(nbI n i).length≤i:=by
 have h1:(nbI n i).length≤((be4 n).take i).length:=(List.dropWhile_sublist _).length_le
 rw[List.length_take] at h1
 omega
def bytesF (n:Nat) (y:Nat) (L:Bytes) (k:Int):AF:=⟨[(0,.yld y),(1,.ref [.int .i64 (n:Int)]),(3,.bool (!L.isEmpty)),(4,.int .i64 k)],[]⟩
set_option maxRecDepth 100000 in
set_option maxHeartbeats 8000000 in
theorem bytesIt0 (n:Nat) (hn:n < 4294967296) (y:Nat) (J:Bytes→Mem→Prop) (M:Mem) (hraw:∀L N,J L N→∃o vs t,N.get y=some (.raw none o vs t)) (hY:∀L (x:UInt8) N,J L N→L.length < 4→AYields Tryd.prog y [.int .u8 (x.toNat:Int)] N fun e N'=>e=.ret (.bool true)∧J (L++[x]) N') (h0:J [] M):ACalls Tryd.prog 75 [.yld y,.ref [.int .i64 (n:Int)]] M (fun e N=>e=.ret (.tup [])∧J (nb n) N):=by
 refine acalls_of tabOK Tryd.func75 rfl (by decide) (by simp[Tryd.f75]) ?_
 repeat' (first|refine DW_A tabs rfl ?_|refine DW_nil ?_|refine W_A rfl ?_)
 refine W_loop (fun m f N=>m≤4∧J (nbI n (4 - m)) N∧f=bytesF n y (nbI n (4 - m)) ((m:Int) - 1)) (k:=4) ⟨Nat.le_refl _,(by simpa [nbI] using h0),rfl⟩ (Joint.le ?_ (Mem.le_refl _)) ?_
 ·unfold bytesF
  repeat (refine AF.le_cons rfl ?_)
  exact AF.le_nil rfl
 rintro m f N ⟨hm,hJ,rfl⟩
 match m,hm,hJ with
 |0,_,hJ=>
  unfold bytesF
  repeat' (first|refine DW_A tabs rfl ?_|refine DW_nil ?_|refine W_A rfl ?_)
  exact⟨rfl,_,rfl,rfl,hJ⟩
 |j+1,hm,hJ=>
  have hk:((j+1:Nat):Int) - 1=(j:Int):=by omega
  rw[hk]
  rw[show 4 - (j+1)=3 - j from by omega] at hJ ⊢
  have hL:=nbI_len n (3 - j)
  have hs:=nbI_succ n j (by omega)
  generalize nbI n (3 - j)=L at hJ hs hL
  have d0:decide ((0:Int)≤(j:Int))=true:=by simp
  have d1:decide ((j:Int) < (0:Int))=false:=by simp
  have g1:IntKind.wrap .i64 (8*(j:Int))=((8*j:Nat):Int):=(Go.Ab.wrap_small (by omega) (by omega)).trans (by omega)
  have g2:Int.fdiv (n:Int) ((2:Int)^(min (((8*j:Nat):Int)).toNat IntKind.i64.bits))=((n/256^j:Nat):Int):=by
   have e1:min (((8*j:Nat):Int)).toNat IntKind.i64.bits=8*j:=by
    show min _ 64=_
    omega
   rw[e1,fdiv_pow,Nat.pow_mul]
  have g3:IntKind.wrap .u8 ((n/256^j:Nat):Int)=((byteAt n j).toNat:Int):=byteAt_u8 n j _ rfl
  have g4:IntKind.wrap .i64 ((j:Int) - 1)=(j:Int) - 1:=Go.Ab.wrap_small (by omega) (by omega)
  generalize byteAt n j=b at g3 hs
  unfold bytesF
  obtain⟨o,vs,t0,hr⟩:=hraw L N hJ
  cases L with
  |nil=>
   cases hb:(b==0)
   ·have d2:(!decide ((b.toNat:Int)=0))=true:=by
     have:¬(b.toNat:Int)=0:=by
      intro h
      have:b=0:=UInt8.toNat_inj.1 (by simpa using h)
      simp[this] at hb
     simp only[this,decide_false,Bool.not_false]
    have e:nbI n (4 - j)=[b]:=by rw[hs,hb];rfl
    repeat' (first|refine DW_VB tabs rfl (by first|exact d0|exact d1|exact d2) ?_|refine DW_VI tabs rfl (by first|exact g1|exact g2|exact g3|exact g4) ?_|refine DW_A tabs rfl ?_|refine DW_nil ?_|refine W_A rfl ?_)
    refine DW_Y rfl hr (hY [] b N hJ (by simp)) ?_ (by rintro u M' ⟨h,_⟩;cases h)
    rintro u M' ⟨h,hJ'⟩
    cases h
    repeat' (first|refine DW_VB tabs rfl (by first|exact d0|exact d1|exact d2) ?_|refine DW_VI tabs rfl (by first|exact g1|exact g2|exact g3|exact g4) ?_|refine DW_A tabs rfl ?_|refine DW_nil ?_|refine W_A rfl ?_)
    refine⟨j,_,_,by omega,⟨by omega,(by rw[e];exact hJ'),rfl⟩,Joint.le ?_ (Mem.le_refl _)⟩
    rw[e]
    repeat (refine AF.le_cons rfl ?_)
    exact AF.le_nil rfl
   ·have d2:(!decide ((b.toNat:Int)=0))=false:=by
     have:b=0:=by simpa using hb
     simp[this]
    have e:nbI n (4 - j)=[]:=by rw[hs,hb];rfl
    repeat' (first|refine DW_VB tabs rfl (by first|exact d0|exact d1|exact d2) ?_|refine DW_VI tabs rfl (by first|exact g1|exact g2|exact g3|exact g4) ?_|refine DW_A tabs rfl ?_|refine DW_nil ?_|refine W_A rfl ?_)
    refine⟨j,_,_,by omega,⟨by omega,(by rw[e];exact hJ),rfl⟩,Joint.le ?_ (Mem.le_refl _)⟩
    rw[e]
    repeat (refine AF.le_cons rfl ?_)
    exact AF.le_nil rfl
  |cons a L=>
   have e:nbI n (4 - j)=a::L++[b]:=by rw[hs,if_neg (by simp)]
   repeat' (first|refine DW_VB tabs rfl (by first|exact d0|exact d1) ?_|refine DW_VI tabs rfl (by first|exact g1|exact g2|exact g3|exact g4) ?_|refine DW_A tabs rfl ?_|refine DW_nil ?_|refine W_A rfl ?_)
   refine DW_Y rfl hr (hY (a::L) b N hJ (by simp at hL ⊢;omega)) ?_ (by rintro u M' ⟨h,_⟩;cases h)
   rintro u M' ⟨h,hJ'⟩
   cases h
   repeat' (first|refine DW_VB tabs rfl (by first|exact d0|exact d1) ?_|refine DW_VI tabs rfl (by first|exact g1|exact g2|exact g3|exact g4) ?_|refine DW_A tabs rfl ?_|refine DW_nil ?_|refine W_A rfl ?_)
   refine⟨j,_,_,by omega,⟨by omega,(by rw[e];exact hJ'),rfl⟩,Joint.le ?_ (Mem.le_refl _)⟩
   rw[e]
   repeat (refine AF.le_cons rfl ?_)
   exact AF.le_nil rfl
theorem bytesIt (n:Nat) (hn:n < 4294967296):AIter Tryd.prog 75 [.ref [.int .i64 (n:Int)]] (fun b:UInt8=>[.int .u8 (b.toNat:Int)]) (fun L _=>L.length < 4) (nb n):=
 fun y J M hraw hY h0=>bytesIt0 n hn y J M hraw hY h0
def putN (n:Nat):Bytes:=UInt8.ofNat (nb n).length::nb n
def numA (n:Int):AV:=if 0≤n∧n≤4294967295 then .tup [.str (putN n.toNat),.int .i64 0] else .tup [.str [],.int .i64 1]
theorem closed_num (n:Int):Closed (numA n):=by
 unfold numA
 split<;>exact closed_tup (closed2 closed_str closed_int)
def jd:Nat→Nat
 |0=>0
 |e+1=>4+e
def NM (O:AObj) (e cap:Nat) (arr:List AV):Mem:=⟨4+e,[(1,.cells [.osl (jd e) 0 (1+e) cap 1]),(2,deferO),(3,O),(jd e,.cells arr)]⟩
def NK (O:AObj) (L:Bytes) (N:Mem):Prop:=∃cap arr,1+L.length≤cap∧arr.length=cap*1∧arr.take (1+L.length)=(0::L).map byteAV∧(NM O L.length cap arr).le N
set_option maxRecDepth 100000 in
set_option maxHeartbeats 8000000 in
theorem bytesF_ok (n:Int):APure Tryd.prog 59 [.int .i64 n] (.fn (.func 75) [] [.ref [.int .i64 n]]):=by
 intro M
 refine acalls_of tabOK Tryd.func59 rfl (by decide) (by simp[Tryd.f59]) ?_
 repeat' (first|refine DW_A tabs rfl ?_|refine DW_nil ?_|refine W_A rfl ?_)
 exact⟨rfl,_,rfl,rfl,rfl⟩
def NE (e cap:Nat) (arr:List AV):Mem:=⟨4+e,[(1,.cells [.osl (jd e) 0 (1+e) cap 1]),(2,deferO),(jd e,.cells arr)]⟩
theorem putN_eq {m e:Nat} (h:(nb m).length=e):putN m=UInt8.ofNat e::nb m:=by rw[←h];rfl
theorem writeAt1 {x y:AV} {l:List AV}:writeAt (y::l) 0 [x]=x::l:=by cases l<;>rfl
theorem writeAt0 {arr:List AV} {e:Nat} {x y:AV} {r:List AV} (h:arr.take (1+e)=y::r):(writeAt arr 0 [x]).take (1+e)=x::r:=by
 cases arr with
 |nil=>simp at h
 |cons a l=>
  rw[Nat.add_comm,List.take_succ_cons] at h
  cases h
  rw[writeAt1,Nat.add_comm,List.take_succ_cons]
theorem writeAt0l {arr:List AV} {e cap:Nat} {x:AV} (h:arr.length=cap*1) (hc:1+e≤cap):1+e≤(writeAt arr 0 [x]).length:=by
 cases arr with
 |nil=>simp at h;omega
 |cons a l=>
  rw[writeAt1]
  simp at h ⊢
  omega
set_option maxRecDepth 100000 in
set_option maxHeartbeats 8000000 in
theorem number_ok (n:Int):APure Tryd.prog 34 [.int .i64 n] (numA n):=by
 refine pure_sub (closed1 closed_int) (closed_num n) ?_
 refine acalls_of_m tabOK Tryd.func34 rfl (by decide) (by simp[Tryd.f34]) ?_
 have kb:=bytesF_ok n
 cases d1:decide (n < 0)
 ·cases d2:decide (4294967295 < n)
  ·have h1:=of_decide_eq_false d1
   have h2:=of_decide_eq_false d2
   unfold numA
   rw[if_pos ⟨by omega,by omega⟩]
   obtain⟨m,rfl⟩:=Int.eq_ofNat_of_zero_le (by omega:0≤n)
   repeat' (first|refine DW_VB tabs rfl (by first|exact d1|exact d2) ?_|refine DW_box 12 tabOK rfl ?_|refine DW_orow 12 tabOK rfl ?_|refine DW_oix tabOK rfl ?_|refine DW_olenA tabOK rfl ?_|refine DW_A tabs rfl ?_|refine DW_nil ?_|refine W_A rfl ?_|refine DW_C rfl kb ?_|refine DW_row tabOK rfl ?_|refine DW_app tabOK rfl rfl (by simp;omega) (by simp;omega) ?_|refine DW_app0 tabOK rfl (by simp;omega) (by simp;omega) ?_)
   refine W.le (g:=⟨[(4,.ptr 1 0),(14,.fn (.func 75) [] [.ref [.int .i64 (m:Int)]])],[]⟩) (N:=⟨2,[(1,.cells [.osl 0 0 1 1 1]),(0,.cells [.int .u8 0])]⟩) ?_ ?_ ?_
   ·repeat (refine AF.le_cons rfl ?_)
    exact AF.le_nil rfl
   ·exact Mem.le_cons rfl (Mem.le_cons rfl (Mem.le_nil rfl))
   refine W_rangeJ rfl (bytesIt m (by omega)) NK (fun _=>rfl) rfl ?_ ?_ ?_ ?_
   ·rintro O L N ⟨cap,arr,_,_,_,hN⟩
    exact hN.2 _ _ rfl
   ·intro O
    refine⟨1,[.int .u8 0],Nat.le_refl _,rfl,rfl,?_⟩
    exact Mem.le_cons rfl (Mem.le_cons rfl (Mem.le_cons rfl (Mem.le_cons rfl (Mem.le_nil rfl))))
   ·rintro O O1 L x N l ⟨cap,arr,c1,c2,c3,hN⟩ hL
    rcases (by omega:L.length=0∨L.length=1∨L.length=2∨L.length=3) with h|h|h|h
    all_goals
     rw[h] at c1 c3 hN
     refine W.le ⟨rfl,fun _=>Sub.refl⟩ hN ?_
     repeat' (first|refine DW_box 12 tabOK rfl ?_|refine DW_orow 12 tabOK rfl ?_|refine DW_oix tabOK rfl ?_|refine DW_olenA tabOK rfl ?_|refine DW_A tabs rfl ?_|refine DW_nil ?_|refine W_A rfl ?_|refine DW_row tabOK rfl ?_|refine DW_app tabOK rfl rfl (by simp;omega) (by simp;omega) ?_|refine DW_app0 tabOK rfl (by simp;omega) (by simp;omega) ?_)
     refine⟨rfl,?_⟩
     repeat' (first|refine DW_box 12 tabOK rfl ?_|refine DW_orow 12 tabOK rfl ?_|refine DW_oix tabOK rfl ?_|refine DW_olenA tabOK rfl ?_|refine DW_A tabs rfl ?_|refine DW_nil ?_|refine W_A rfl ?_|refine DW_row tabOK rfl ?_|refine DW_app tabOK rfl rfl (by simp;omega) (by simp;omega) ?_|refine DW_app0 tabOK rfl (by simp;omega) (by simp;omega) ?_)
     refine DW_oappA tabOK rfl c2 c1 (by simp) (by simp) ?_
     intro cap' arr' e1 e2 e3
     repeat' (first|refine DW_box 12 tabOK rfl ?_|refine DW_orow 12 tabOK rfl ?_|refine DW_oix tabOK rfl ?_|refine DW_olenA tabOK rfl ?_|refine DW_A tabs rfl ?_|refine DW_nil ?_|refine W_A rfl ?_|refine DW_row tabOK rfl ?_|refine DW_app tabOK rfl rfl (by simp;omega) (by simp;omega) ?_|refine DW_app0 tabOK rfl (by simp;omega) (by simp;omega) ?_)
     refine⟨rfl,rfl,cap',arr',by simpa [h] using e1,e2,?_,?_⟩
     ·rw[Nat.mul_one,Nat.mul_one,c3] at e3
      simp only[List.length_append,h,List.length_cons,List.length_nil]
      refine e3.trans ?_
      simp[flat,AV.cells,byteAV]
     ·simp only[List.length_append,h,List.length_cons,List.length_nil]
      exact Mem.le_cons rfl (Mem.le_cons rfl (Mem.le_cons rfl (Mem.le_cons rfl (Mem.le_nil rfl))))
   ·rintro O N ⟨cap,arr,c1,c2,c3,hN⟩
    have hle:=nbI_len m 4
    have hp:(nb m).length≤4:=hle
    rcases (by omega:(nb m).length=0∨(nb m).length=1∨(nb m).length=2∨(nb m).length=3∨(nb m).length=4) with h|h|h|h|h
    all_goals
     rw[h] at c1 c3 hN
     have hq:=putN_eq h
     obtain⟨a0,l0,rfl⟩:∃a l,arr=a::l:=by
      cases arr with
      |nil=>simp at c3
      |cons a l=>exact⟨a,l,rfl⟩
     refine⟨NE _ cap (a0::l0),Mem.le_trans (Mem.le_cons (i:=1) rfl (Mem.le_cons (i:=2) rfl (Mem.le_cons rfl (Mem.le_nil rfl)))) hN,rfl,?_⟩
     repeat' (first|refine DW_box 12 tabOK rfl ?_|refine DW_orow 12 tabOK rfl ?_|refine DW_oix tabOK rfl ?_|refine DW_olenA tabOK rfl ?_|refine DW_A tabs rfl ?_|refine DW_nil ?_|refine W_A rfl ?_|refine DW_row tabOK rfl ?_|refine DW_app tabOK rfl rfl (by simp;omega) (by simp;omega) ?_|refine DW_app0 tabOK rfl (by simp;omega) (by simp;omega) ?_)
     refine DW_ob2s tabOK rfl rfl rfl rfl rfl rfl rfl rfl rfl rfl rfl rfl rfl (bs:=putN m) ?_ (by exact writeAt0l c2 c1) c1 ?_
     ·rw[hq]
      exact writeAt0 c3
     repeat' (first|refine DW_box 12 tabOK rfl ?_|refine DW_orow 12 tabOK rfl ?_|refine DW_oix tabOK rfl ?_|refine DW_olenA tabOK rfl ?_|refine DW_A tabs rfl ?_|refine DW_nil ?_|refine W_A rfl ?_|refine DW_row tabOK rfl ?_|refine DW_app tabOK rfl rfl (by simp;omega) (by simp;omega) ?_|refine DW_app0 tabOK rfl (by simp;omega) (by simp;omega) ?_)
     refine marks1 (N:=⟨_,[]⟩) rfl (Mem.le_nil rfl) rfl ⟨_,rfl,_,rfl,SubC.of_closed (closed_tup (closed2 closed_str closed_int))⟩
  ·have h2:=of_decide_eq_true d2
   unfold numA
   rw[if_neg (by omega)]
   repeat' (first|refine DW_VB tabs rfl (by first|exact d1|exact d2) ?_|refine DW_box 12 tabOK rfl ?_|refine DW_orow 12 tabOK rfl ?_|refine DW_oix tabOK rfl ?_|refine DW_olenA tabOK rfl ?_|refine DW_A tabs rfl ?_|refine DW_nil ?_|refine W_A rfl ?_|refine DW_row tabOK rfl ?_|refine DW_app tabOK rfl rfl (by simp;omega) (by simp;omega) ?_|refine DW_app0 tabOK rfl (by simp;omega) (by simp;omega) ?_)
   exact⟨_,rfl,_,rfl,SubC.of_closed (closed_tup (closed2 closed_str closed_int))⟩
 ·have h1:=of_decide_eq_true d1
  unfold numA
  rw[if_neg (by omega)]
  repeat' (first|refine DW_VB tabs rfl d1 ?_|refine DW_box 12 tabOK rfl ?_|refine DW_orow 12 tabOK rfl ?_|refine DW_oix tabOK rfl ?_|refine DW_olenA tabOK rfl ?_|refine DW_A tabs rfl ?_|refine DW_nil ?_|refine W_A rfl ?_|refine DW_row tabOK rfl ?_|refine DW_app tabOK rfl rfl (by simp;omega) (by simp;omega) ?_|refine DW_app0 tabOK rfl (by simp;omega) (by simp;omega) ?_)
  exact⟨_,rfl,_,rfl,SubC.of_closed (closed_tup (closed2 closed_str closed_int))⟩
end Go.Proofs.YtbcaejhhgkcgpaaDoor
namespace Go.Ab
open Go.RowKit
section
variable {P:Program} {τ:Tab} {ops:Array Oper} {cls:Nat→Cls} {Q:AX→AF→Mem→Prop} {ds:List ADef} {ls:List Nat} {i:Nat} {t:List (Nat×AV)} {M:Mem}
def stepSub (τ:Tab) (ops:Array Oper) (ds:List ADef) (i:Nat) (t:List (Nat×AV)):Option (Nat×List UInt8×Int×Int):=
 match ops[i]? with
 |some o=>(match wantedA ops ⟨t,ds⟩ o,o.dst,o.op with
  |some true,some d,.slice ty X L H none=>(match AF.ev ⟨t,ds⟩ X,lookup τ ty with
   |.str s,some ti=>(match ti.k,bnd (L.map (AF.ev ⟨t,ds⟩)) 0,bnd (H.map (AF.ev ⟨t,ds⟩)) s.length with
    |.str,some lo,some hi=>some (d,s,lo,hi)
    |_,_,_=>none)
   |_,_=>none)
  |_,_,_=>none)
 |none=>none
theorem DW_sub (hτ:TabOK P τ) {d:Nat} {s x:List UInt8} {lo hi:Int} (hs:stepSub τ ops ds i t=some (d,s,lo,hi)) (hx:0≤lo∧lo≤hi∧hi≤s.length∧(s.take hi.toNat).drop lo.toNat=x) (h:DW P ops cls Q ds ls ((d,.str x)::t) M):DW P ops cls Q ds (i::ls) t M:=by
 obtain⟨h0,h1,h2,rfl⟩:=hx
 unfold stepSub at hs
 split at hs
 ·rename_i o hi'
  split at hs
  ·rename_i d' ty X L H hw hd ho
   split at hs
   ·rename_i s' ti hX ht
    split at hs
    ·rename_i lo' hi2 hk hL hH
     cases hs
     exact DW_substr hτ hi' hw hd ho hX ht hk hL hH h0 h1 h2 h
    ·cases hs
   ·cases hs
  ·cases hs
 ·cases hs
def stepSlc (τ:Tab) (ops:Array Oper) (ds:List ADef) (i:Nat) (t:List (Nat×AV)):Option (Nat×Nat×List AV×Int×Int):=
 match ops[i]? with
 |some o=>(match wantedA ops ⟨t,ds⟩ o,o.dst,o.op with
  |some true,some d,.slice ty X L H none=>(match AF.ev ⟨t,ds⟩ X,lookup τ ty with
   |.sl sz xs tg,some ti=>(match ti.k with
    |.slice e=>(match lookup τ e with
     |some ei=>(match decide (sz=ei.size),bnd (L.map (AF.ev ⟨t,ds⟩)) 0,bnd (H.map (AF.ev ⟨t,ds⟩)) xs.length with
      |true,some lo,some hi=>some (d,sz,xs,lo,hi)
      |_,_,_=>none)
     |none=>none)
    |_=>none)
   |_,_=>none)
  |_,_,_=>none)
 |none=>none
theorem DW_slc (hτ:TabOK P τ) {d sz:Nat} {xs ys:List AV} {lo hi:Int} (hs:stepSlc τ ops ds i t=some (d,sz,xs,lo,hi)) (hx:0≤lo∧lo≤hi∧hi≤xs.length∧(xs.take hi.toNat).drop lo.toNat=ys) (h:DW P ops cls Q ds ls ((d,.sl sz ys .none)::t) M):DW P ops cls Q ds (i::ls) t M:=by
 obtain⟨h0,h1,h2,rfl⟩:=hx
 unfold stepSlc at hs
 split at hs
 ·rename_i o hi'
  split at hs
  ·rename_i d' ty X L H hw hd ho
   split at hs
   ·rename_i sz' xs' tg ti hX ht
    split at hs
    ·rename_i e hk
     split at hs
     ·rename_i ei he
      split at hs
      ·rename_i lo' hi2 hsz hL hH
       cases hs
       exact DW_slice hτ hi' hw hd ho hX ht hk he (of_decide_eq_true hsz) hL hH h0 h1 h2 h
      ·cases hs
     ·cases hs
    ·cases hs
   ·cases hs
  ·cases hs
 ·cases hs
def stepCat (ops:Array Oper) (ds:List ADef) (i:Nat) (t:List (Nat×AV)):Option (Nat×List UInt8×List UInt8):=
 match ops[i]? with
 |some o=>(match wantedA ops ⟨t,ds⟩ o,o.dst,o.op with
  |some true,some d,.binOp .add _ X Y _=>(match AF.ev ⟨t,ds⟩ X,AF.ev ⟨t,ds⟩ Y with
   |.str a,.str b=>some (d,a,b)
   |_,_=>none)
  |_,_,_=>none)
 |none=>none
theorem DW_cat {d:Nat} {a b x:List UInt8} (hs:stepCat ops ds i t=some (d,a,b)) (hx:a.length+b.length≤9223372036854775807∧a++b=x) (h:DW P ops cls Q ds ls ((d,.str x)::t) M):DW P ops cls Q ds (i::ls) t M:=by
 obtain⟨hl,rfl⟩:=hx
 unfold stepCat at hs
 split at hs
 ·rename_i o hi'
  split at hs
  ·rename_i d' xt X Y yt hw hd ho
   split at hs
   ·rename_i a' b' hX hY
    cases hs
    exact DW_concat hi' hw hd ho hX hY hl h
   ·cases hs
  ·cases hs
 ·cases hs
end
end Go.Ab
namespace Go.Proofs.YtbcaejhhgkcgpaaDoor
open Go.Ab
def getNum:Bytes→Option (Nat×Bytes)
 |[]=>none
 |c::r=>if 4 < c.toNat∨r.length < c.toNat∨(r.take c.toNat).head?=some 0 then none else some (num (r.take c.toNat),r.drop c.toNat)
theorem getNum_none {c:UInt8} {r:Bytes} (h:4 < c.toNat∨r.length < c.toNat∨(r.take c.toNat).head?=some 0):getNum (c::r)=none:=if_pos h
theorem getNum_some {c:UInt8} {r:Bytes} (h:¬(4 < c.toNat∨r.length < c.toNat∨(r.take c.toNat).head?=some 0)):getNum (c::r)=some (num (r.take c.toNat),r.drop c.toNat):=if_neg h
def gnA:Option (Nat×Bytes)→AV
 |some (n,r)=>.tup [.int .i64 (n:Int),.str r,.bool true]
 |none=>.tup [.int .i64 0,.str [],.bool false]
set_option maxRecDepth 100000 in
set_option maxHeartbeats 8000000 in
theorem getNumber_ok (s:Bytes) (hs:s.length < 4611686018427387904):APure Tryd.prog 38 [.str s] (gnA (getNum s)):=by
 intro M
 refine acalls_of tabOK Tryd.func38 rfl (by decide) (by simp[Tryd.f38]) ?_
 cases s with
 |nil=>
  have d1:(([]:Bytes)==[])=true:=rfl
  repeat' (first|refine DW_A tabs rfl ?_|refine DW_nil ?_|refine W_A rfl ?_|refine W_draw mixed [0,1,2,3,4,5,6,7,8,9,10,11,12,13] [.P,.P,.P,.P,.P,.P,.P,.P,.P,.P,.P,.P,.P,.P] rfl rfl (by kernel_rfl) ?_)
  exact⟨rfl,_,rfl,rfl,rfl⟩
 |cons c r=>
  have d1:((c::r)==[])=false:=rfl
  have hc:=c.toNat_lt
  have b1:=byte_i64 c
  have hl:(c::r).length=r.length+1:=rfl
  cases d2:decide ((4:Int) < (c.toNat:Int))
  ·have d2':=of_decide_eq_false d2
   cases d3:decide (((c::r).length:Int)≤(c.toNat:Int))
   ·have d3':=of_decide_eq_false d3
    have e1:IntKind.wrap .i64 (1+(c.toNat:Int))=((1+c.toNat:Nat):Int):=(Go.Ab.wrap_small (by omega) (by omega)).trans (by omega)
    have s1:(0:Int)≤1∧(1:Int)≤((1+c.toNat:Nat):Int)∧((1+c.toNat:Nat):Int)≤((c::r).length:Int)∧((c::r).take ((1+c.toNat:Nat):Int).toNat).drop (1:Int).toNat=r.take c.toNat:=by
     refine⟨by omega,by omega,by omega,?_⟩
     rw[Int.toNat_natCast,Nat.add_comm,List.take_succ_cons]
     rfl
    have s2:(0:Int)≤((1+c.toNat:Nat):Int)∧((1+c.toNat:Nat):Int)≤((c::r).length:Int)∧((c::r).length:Int)≤((c::r).length:Int)∧((c::r).take ((c::r).length:Int).toNat).drop ((1+c.toNat:Nat):Int).toNat=r.drop c.toNat:=by
     refine⟨by omega,by omega,by omega,?_⟩
     rw[Int.toNat_natCast,Int.toNat_natCast,List.take_length,Nat.add_comm,List.drop_succ_cons]
    have hlb:(r.take c.toNat).length=c.toNat:=by rw[List.length_take];omega
    have hnl:=num_lt 4 (r.take c.toNat) (by omega)
    by_cases h0:(r.take c.toNat).head?=some 0
    ·rw[getNum_none (.inr (.inr h0))]
     obtain⟨B,hB⟩:∃B,r.take c.toNat=0::B:=by
      cases hq:r.take c.toNat with
      |nil=>rw[hq] at h0;cases h0
      |cons a B=>rw[hq] at h0;cases h0;exact⟨B,rfl⟩
     have d4:(!((0::B:Bytes)==[]))=true:=rfl
     have d5:decide (((0:UInt8).toNat:Int)=0)=true:=rfl
     rw[hB] at s1
     repeat' (first|refine DW_VB tabs rfl (by first|exact d1|exact d2|exact d3|exact d4|exact d5) ?_|refine DW_VI tabs rfl (by first|exact b1|exact e1) ?_|refine DW_A tabs rfl ?_|refine DW_nil ?_|refine W_A rfl ?_|refine DW_by tabOK rfl (⟨Int.le_refl 0,rfl⟩) ?_|refine DW_sub tabOK rfl (s1) ?_|refine DW_sub tabOK rfl (s2) ?_|refine W_draw mixed [0,1,2,3,4,5,6,7,8,9,10,11,12,13] [.P,.P,.P,.P,.P,.P,.P,.P,.P,.P,.P,.P,.P,.P] rfl rfl (by kernel_rfl) ?_)
     exact⟨rfl,_,rfl,rfl,rfl⟩
    ·rw[getNum_some (by rintro (h|h|h);omega;omega;exact h0 h)]
     generalize hB:r.take c.toNat=B at s1 hlb hnl h0
     generalize hR:r.drop c.toNat=R at s2
     have h4:(!(B==[]))=false∨∃a,(!(B==[]))=true∧B[0]? =some a∧decide ((a.toNat:Int)=0)=false:=by
      cases B with
      |nil=>exact .inl rfl
      |cons a B=>
       refine .inr ⟨a,rfl,rfl,?_⟩
       rw[decide_eq_false_iff_not]
       intro h
       apply h0
       have:a=0:=UInt8.toNat_inj.1 (by simpa using h)
       rw[this]
       rfl
     rcases h4 with d4|⟨a,d4,ha,d5⟩
     focus
      repeat' (first|refine DW_VB tabs rfl (by first|exact d1|exact d2|exact d3|exact d4) ?_|refine DW_VI tabs rfl (by first|exact b1|exact e1) ?_|refine DW_A tabs rfl ?_|refine DW_nil ?_|refine W_A rfl ?_|refine DW_by tabOK rfl (⟨Int.le_refl 0,rfl⟩) ?_|refine DW_sub tabOK rfl (s1) ?_|refine DW_sub tabOK rfl (s2) ?_|refine W_draw mixed [0,1,2,3,4,5,6,7,8,9,10,11,12,13] [.P,.P,.P,.P,.P,.P,.P,.P,.P,.P,.P,.P,.P,.P] rfl rfl (by kernel_rfl) ?_)
     rotate_left
     focus
      repeat' (first|refine DW_VB tabs rfl (by first|exact d1|exact d2|exact d3|exact d4|exact d5) ?_|refine DW_VI tabs rfl (by first|exact b1|exact e1) ?_|refine DW_A tabs rfl ?_|refine DW_nil ?_|refine W_A rfl ?_|refine DW_by tabOK rfl (⟨Int.le_refl 0,rfl⟩) ?_|refine DW_by tabOK rfl (⟨Int.le_refl 0,ha⟩) ?_|refine DW_sub tabOK rfl (s1) ?_|refine DW_sub tabOK rfl (s2) ?_|refine W_draw mixed [0,1,2,3,4,5,6,7,8,9,10,11,12,13] [.P,.P,.P,.P,.P,.P,.P,.P,.P,.P,.P,.P,.P,.P] rfl rfl (by kernel_rfl) ?_)
     all_goals
      refine W_count B.length (fun i f N=>N=M∧(True)∧f=⟨[(5,.str B),(6,.str R),(7,.int .i64 ((num (B.take i):Nat):Int)),(45,.int .i64 (B.length:Int)),(46,.int .i64 (i:Int))],[]⟩) (Nat.zero_le _) ⟨rfl,trivial,rfl⟩ (Joint.le ?_ (Mem.le_refl _)) ?_
      ·skip
       repeat (refine AF.le_cons rfl ?_)
       exact AF.le_nil rfl
      rintro i f N hi ⟨rfl,hinv,rfl⟩
      by_cases h1:i < B.length
      ·have d1:decide ((i:Int) < (B.length:Int))=true:=by simp;omega
       have hx:B[i]? =some B[i]:=List.getElem?_eq_getElem h1
       have fi:=wrap_succ (i:=i) (by omega)
       have ht:=take_succ hx
       have hm:=List.getElem_mem h1
       generalize B[i]=b at hx ht hm
       have hml:num (B.take i) < 256^4:=num_lt 4 _ (by simp;omega)
       have hnm:=num_app (B.take i) b
       rw[←ht] at hnm
       generalize num (B.take i)=m at hnm hml
       have hb:=b.toNat_lt
       have g1:IntKind.wrap .i64 ((m:Int)*(2:Int)^(min (8:Int).toNat IntKind.i64.bits))=((m*256:Nat):Int):=by
        have:(2:Int)^(min (8:Int).toNat IntKind.i64.bits)=256:=rfl
        rw[this]
        exact (Go.Ab.wrap_small (by omega) (by omega)).trans (by omega)
       have g2:=byte_i64 b
       have g3:=or_256 m b (by omega)
       repeat' (first|refine DW_VB tabs rfl d1 ?_|refine DW_VI tabs rfl (by first|exact g1|exact g2|exact g3|exact fi) ?_|refine DW_A tabs rfl ?_|refine DW_nil ?_|refine W_A rfl ?_|refine DW_by tabOK rfl (byN hx) ?_|refine W_draw mixed [0,1,2,3,4,5,6,7,8,9,10,11,12,13] [.P,.P,.P,.P,.P,.P,.P,.P,.P,.P,.P,.P,.P,.P] rfl rfl (by kernel_rfl) ?_)
       refine⟨h1,_,_,⟨rfl,?_,rfl⟩,Joint.le ?_ (Mem.le_refl _)⟩
       ·trivial
       ·rw[hnm]
        repeat (refine AF.le_cons rfl ?_)
        exact AF.le_nil rfl
      ·have d1:decide ((i:Int) < (B.length:Int))=false:=by simp;omega
       obtain rfl:i=B.length:=by omega
       rw[List.take_length]
       repeat' (first|refine DW_VB tabs rfl d1 ?_|refine DW_A tabs rfl ?_|refine DW_nil ?_|refine W_A rfl ?_|refine W_draw mixed [0,1,2,3,4,5,6,7,8,9,10,11,12,13] [.P,.P,.P,.P,.P,.P,.P,.P,.P,.P,.P,.P,.P,.P] rfl rfl (by kernel_rfl) ?_)
       exact⟨rfl,_,rfl,rfl,rfl⟩
   ·have d3':=of_decide_eq_true d3
    rw[getNum_none (.inr (.inl (by omega)))]
    repeat' (first|refine DW_VB tabs rfl (by first|exact d1|exact d2|exact d3) ?_|refine DW_VI tabs rfl b1 ?_|refine DW_A tabs rfl ?_|refine DW_nil ?_|refine W_A rfl ?_|refine DW_by tabOK rfl (⟨Int.le_refl 0,rfl⟩) ?_|refine W_draw mixed [0,1,2,3,4,5,6,7,8,9,10,11,12,13] [.P,.P,.P,.P,.P,.P,.P,.P,.P,.P,.P,.P,.P,.P] rfl rfl (by kernel_rfl) ?_)
    exact⟨rfl,_,rfl,rfl,rfl⟩
  ·have d2':=of_decide_eq_true d2
   rw[getNum_none (.inl (by omega))]
   repeat' (first|refine DW_VB tabs rfl (by first|exact d1|exact d2) ?_|refine DW_VI tabs rfl b1 ?_|refine DW_A tabs rfl ?_|refine DW_nil ?_|refine W_A rfl ?_|refine DW_by tabOK rfl (⟨Int.le_refl 0,rfl⟩) ?_|refine W_draw mixed [0,1,2,3,4,5,6,7,8,9,10,11,12,13] [.P,.P,.P,.P,.P,.P,.P,.P,.P,.P,.P,.P,.P,.P] rfl rfl (by kernel_rfl) ?_)
   exact⟨rfl,_,rfl,rfl,rfl⟩
end Go.Proofs.YtbcaejhhgkcgpaaDoor
namespace Go.Proofs.YtbcaejhhgkcgpaaDoor
open Go.Ab
theorem numA_nat {m:Nat} (h:m < 4294967296):numA (m:Int)=.tup [.str (putN m),.int .i64 0]:=if_pos ⟨by omega,by omega⟩
theorem number_nat {m:Nat} (h:m < 4294967296):APure Tryd.prog 34 [.int .i64 (m:Int)] (.tup [.str (putN m),.int .i64 0]):=by
 rw[←numA_nat h]
 exact number_ok _
theorem byteAt_is {n j:Nat} {b:UInt8} (h:n/256^j%256=b.toNat):byteAt n j=b:=by
 unfold byteAt
 rw[h]
 exact UInt8.ofNat_toNat
theorem be4_num (B:Bytes) (h:B.length≤4):be4 (num B)=List.replicate (4 - B.length) 0++B:=by
 have z:((0:UInt8).toNat:Nat)=0:=rfl
 match B,h with
 |[],_=>rfl
 |[a],_=>
  have ha:=a.toNat_lt
  have e:num [a]=a.toNat:=by simp[num]
  rw[e]
  unfold be4
  rw[byteAt_is (b:=0) (j:=3) (by rw[z];omega),byteAt_is (b:=0) (j:=2) (by rw[z];omega),byteAt_is (b:=0) (j:=1) (by rw[z];omega),byteAt_is (b:=a) (j:=0) (by omega)]
  rfl
 |[a,b],_=>
  have ha:=a.toNat_lt
  have hb:=b.toNat_lt
  have e:num [a,b]=a.toNat*256+b.toNat:=by simp[num]
  rw[e]
  unfold be4
  rw[byteAt_is (b:=0) (j:=3) (by rw[z];omega),byteAt_is (b:=0) (j:=2) (by rw[z];omega),byteAt_is (b:=a) (j:=1) (by omega),byteAt_is (b:=b) (j:=0) (by omega)]
  rfl
 |[a,b,c],_=>
  have ha:=a.toNat_lt
  have hb:=b.toNat_lt
  have hc:=c.toNat_lt
  have e:num [a,b,c]=(a.toNat*256+b.toNat)*256+c.toNat:=by simp[num]
  rw[e]
  unfold be4
  rw[byteAt_is (b:=0) (j:=3) (by rw[z];omega),byteAt_is (b:=a) (j:=2) (by omega),byteAt_is (b:=b) (j:=1) (by omega),byteAt_is (b:=c) (j:=0) (by omega)]
  rfl
 |[a,b,c,d],_=>
  have ha:=a.toNat_lt
  have hb:=b.toNat_lt
  have hc:=c.toNat_lt
  have hd:=d.toNat_lt
  have e:num [a,b,c,d]=((a.toNat*256+b.toNat)*256+c.toNat)*256+d.toNat:=by simp[num]
  rw[e]
  unfold be4
  rw[byteAt_is (b:=a) (j:=3) (by omega),byteAt_is (b:=b) (j:=2) (by omega),byteAt_is (b:=c) (j:=1) (by omega),byteAt_is (b:=d) (j:=0) (by omega)]
  rfl
 |_::_::_::_::_::_,h=>simp at h
theorem drop0 (k:Nat) (B:Bytes):(List.replicate k 0++B).dropWhile (·==0)=B.dropWhile (·==0):=by
 induction k with
 |zero=>rfl
 |succ k ih=>simp[List.replicate_succ,ih]
theorem nb_num {B:Bytes} (h:B.length≤4):nb (num B)=B.dropWhile (·==0):=by
 have e:(be4 (num B)).take 4=be4 (num B):=rfl
 unfold nb nbI
 rw[e,be4_num B h,drop0]
theorem put_num {B:Bytes} {c:UInt8} (h:B.length≤4) (hc:c.toNat=B.length):(putN (num B)==c::B)=!(decide (B.head?=some 0)):=by
 unfold putN
 rw[nb_num h]
 cases B with
 |nil=>
  have:c=UInt8.ofNat 0:=UInt8.toNat_inj.1 hc
  subst this
  rfl
 |cons b B=>
  by_cases hb:b=0
  ·subst hb
   have e:((0:UInt8)::B).dropWhile (·==0)=B.dropWhile (·==0):=rfl
   have hl:(B.dropWhile (·==0)).length≤B.length:=(List.dropWhile_sublist _).length_le
   rw[e]
   simp only[List.head?_cons,decide_true,Bool.not_true,beq_eq_false_iff_ne]
   intro he
   have:=congrArg List.length he
   simp at this
   omega
  ·have e:(b::B).dropWhile (·==0)=b::B:=by
    rw[List.dropWhile_cons]
    simp[hb]
   have hcc:UInt8.ofNat (b::B).length=c:=by rw[←hc];exact UInt8.ofNat_toNat
   rw[e,hcc]
   simp[hb]
def iA (l:List Int) (t:Tag):AV:=.sl 1 (l.map fun n=>AV.int .i64 n) t
set_option maxRecDepth 100000 in
set_option maxHeartbeats 8000000 in
theorem rInts_ok (a b:List Int) (ta tb:Tag) (ha:a.length < 1000000000) (hb:b.length < 1000000000):APure Tryd.prog 43 [iA a ta,iA b tb] (.bool (decide (a=b))):=by
 intro M
 refine acalls_of tabOK Tryd.func43 rfl (by decide) (by simp[Tryd.f43]) ?_
 have la:=len_map (fun n=>AV.int .i64 n) a
 have lb:=len_map (fun n=>AV.int .i64 n) b
 unfold iA
 by_cases hl:a.length=b.length
 ·have d0:(!decide ((a.length:Int)=(b.length:Int)))=false:=by simp;omega
  repeat' (first|refine DW_VB tabs rfl d0 ?_|refine DW_VI tabs rfl (by first|exact la|exact lb) ?_|refine DW_A tabs rfl ?_|refine DW_nil ?_|refine W_A rfl ?_|refine W_draw mixed [0,1,4,5,2,3,6,7,8] [.P,.P,.R,.R,.P,.P,.R,.R,.P] rfl rfl (by kernel_rfl) ?_)
  refine W_count a.length (fun i f N=>N=M∧(a.take i=b.take i)∧f=⟨[(0,.sl 1 (a.map fun n=>AV.int .i64 n) ta),(1,.sl 1 (b.map fun n=>AV.int .i64 n) tb),(5,.int .i64 (i:Int))],[]⟩) (Nat.zero_le _) ⟨rfl,by simp,rfl⟩ (Joint.le ?_ (Mem.le_refl _)) ?_
  ·skip
   repeat (refine AF.le_cons rfl ?_)
   exact AF.le_nil rfl
  rintro i f N hi ⟨rfl,hinv,rfl⟩
  by_cases h1:i < a.length
  ·have d1:decide ((i:Int) < (a.length:Int))=true:=by simp;omega
   have hx:a[i]? =some a[i]:=List.getElem?_eq_getElem h1
   have fi:=wrap_succ (i:=i) (by omega)
   have ht:=take_succ hx
   have hm:=List.getElem_mem h1
   generalize a[i]=x at hx ht hm
   have hy:b[i]? =some b[i]:=List.getElem?_eq_getElem (by omega)
   have ht2:=take_succ hy
   generalize b[i]=y at hy ht2
   cases h2:decide (x=y)
   ·have d2:(!decide (x=y))=true:=by rw[h2];rfl
    have e:decide (a=b)=false:=by
     rw[decide_eq_false_iff_not]
     rintro rfl
     rw[hx] at hy
     cases hy
     simp at h2
    rw[e]
    repeat' (first|refine DW_VB tabs rfl (by first|exact d1|exact d2) ?_|refine DW_VI tabs rfl (by first|exact la|exact lb|exact fi) ?_|refine DW_A tabs rfl ?_|refine DW_nil ?_|refine W_A rfl ?_|refine DW_ix tabOK rfl (ixN hx) ?_|refine DW_ix tabOK rfl (ixN hy) ?_|refine W_draw mixed [0,1,4,5,2,3,6,7,8] [.P,.P,.R,.R,.P,.P,.R,.R,.P] rfl rfl (by kernel_rfl) ?_)
    exact⟨rfl,_,rfl,rfl,rfl⟩
   ·have d2:(!decide (x=y))=false:=by rw[h2];rfl
    have:=of_decide_eq_true h2
    subst this
    repeat' (first|refine DW_VB tabs rfl (by first|exact d1|exact d2) ?_|refine DW_VI tabs rfl (by first|exact la|exact lb|exact fi) ?_|refine DW_A tabs rfl ?_|refine DW_nil ?_|refine W_A rfl ?_|refine DW_ix tabOK rfl (ixN hx) ?_|refine DW_ix tabOK rfl (ixN hy) ?_|refine W_draw mixed [0,1,4,5,2,3,6,7,8] [.P,.P,.R,.R,.P,.P,.R,.R,.P] rfl rfl (by kernel_rfl) ?_)
    refine⟨h1,_,_,⟨rfl,(by rw[ht,ht2,hinv]),rfl⟩,Joint.le ?_ (Mem.le_refl _)⟩
    repeat (refine AF.le_cons rfl ?_)
    exact AF.le_nil rfl
  ·have d1:decide ((i:Int) < (a.length:Int))=false:=by simp;omega
   obtain rfl:i=a.length:=by omega
   have e:a=b:=by
    rw[List.take_length,hl,List.take_length] at hinv
    exact hinv
   have e:decide (a=b)=true:=decide_eq_true e
   rw[e]
   repeat' (first|refine DW_VB tabs rfl d1 ?_|refine DW_VI tabs rfl (by first|exact la|exact lb) ?_|refine DW_A tabs rfl ?_|refine DW_nil ?_|refine W_A rfl ?_|refine W_draw mixed [0,1,4,5,2,3,6,7,8] [.P,.P,.R,.R,.P,.P,.R,.R,.P] rfl rfl (by kernel_rfl) ?_)
   exact⟨rfl,_,rfl,rfl,rfl⟩
 ·have d0:(!decide ((a.length:Int)=(b.length:Int)))=true:=by simp;omega
  have e:decide (a=b)=false:=by
   rw[decide_eq_false_iff_not]
   rintro rfl
   exact hl rfl
  rw[e]
  repeat' (first|refine DW_VB tabs rfl d0 ?_|refine DW_VI tabs rfl (by first|exact la|exact lb) ?_|refine DW_A tabs rfl ?_|refine DW_nil ?_|refine W_A rfl ?_|refine W_draw mixed [0,1,4,5,2,3,6,7,8] [.P,.P,.R,.R,.P,.P,.R,.R,.P] rfl rfl (by kernel_rfl) ?_)
  exact⟨rfl,_,rfl,rfl,rfl⟩
end Go.Proofs.YtbcaejhhgkcgpaaDoor
namespace Go.Proofs.YtbcaejhhgkcgpaaDoor
open Go.Ab
structure Mt where
 size:Int
 mode:Int
 ch:List Int
deriving DecidableEq
def Mt.cells (m:Mt):List AV:=[.int .i64 m.size,.int .i64 m.mode,iA m.ch .none]
def Mt.av (m:Mt):AV:=.agg m.cells
def zeroMt:Mt:=⟨0,0,[]⟩
theorem closed_iA (l:List Int) {t:Tag} (ht:t=.none∨t=.full):Closed (iA l t):=by
 refine closed_sl ht ?_ ?_
 ·intro x hx
  obtain⟨n,_,rfl⟩:=List.mem_map.1 hx
  exact closed_int
 ·intro x hx c hc
  obtain⟨n,_,rfl⟩:=List.mem_map.1 hx
  simp[AV.cells] at hc
  subst hc
  exact closed_int
theorem closed_cells (m:Mt):∀x,x∈m.cells→Closed x:=closed3 closed_int closed_int (closed_iA _ (.inl rfl))
theorem closed_mt (m:Mt):Closed m.av:=closed_agg (closed_cells m)
theorem Sub.aggL {l m:List AV} (h:SubL l m):Sub (.agg l) (.agg m):=by
 intro μ F w v hr
 obtain⟨c,rfl,h1,h2,h3⟩:=hr.agg_inv
 refine .agg m c (h1.trans h.len) (fun i y u hy hu=>?_) h3
 have hi:i < l.length:=by rw[h.len];exact (List.getElem?_eq_some_iff.1 hy).1
 exact h.get i _ y (List.getElem?_eq_getElem hi) hy μ F w u (h2 i _ u (List.getElem?_eq_getElem hi) hu)
def Mt.avT (m:Mt) (t:Tag):AV:=.agg [.int .i64 m.size,.int .i64 m.mode,iA m.ch t]
theorem sub_mt {m:Mt} {t:Tag}:Sub (m.avT t) m.av:=Sub.aggL ⟨Sub.refl,Sub.refl,Sub.untag,trivial⟩
def inR (n k:Int):Bool:=decide (0≤n)&&decide (n≤k)
def isM (m:Mt):Bool:=m.ch.all (fun n=>inR n 4294967295)&&(inR m.size 1000000000&&inR m.mode 4095&&decide (m.ch.length≤16))
set_option maxRecDepth 100000 in
set_option maxHeartbeats 8000000 in
theorem within_ok (n k:Int):APure Tryd.prog 68 [.int .i64 n,.int .i64 k] (.bool (inR n k)):=by
 intro M
 refine acalls_of tabOK Tryd.func68 rfl (by decide) (by simp[Tryd.f68]) ?_
 unfold inR
 cases d1:decide (0≤n)
 ·repeat' (first|refine DW_VB tabs rfl d1 ?_|refine DW_A tabs rfl ?_|refine DW_nil ?_|refine W_A rfl ?_)
  exact⟨rfl,_,rfl,rfl,rfl⟩
 ·cases d2:decide (n≤k)
  ·repeat' (first|refine DW_VB tabs rfl (by first|exact d1|exact d2) ?_|refine DW_A tabs rfl ?_|refine DW_nil ?_|refine W_A rfl ?_)
   exact⟨rfl,_,rfl,rfl,rfl⟩
  ·repeat' (first|refine DW_VB tabs rfl (by first|exact d1|exact d2) ?_|refine DW_A tabs rfl ?_|refine DW_nil ?_|refine W_A rfl ?_)
   exact⟨rfl,_,rfl,rfl,rfl⟩
theorem all_take {α:Type} {p:α→Bool} {l:List α} {i:Nat} {x:α} (hx:l[i]? =some x) (hi:(l.take i).all p=true) (h:p x=true):(l.take (i+1)).all p=true:=by
 rw[take_succ hx,List.all_append,hi]
 simp[h]
theorem all_no {α:Type} {p:α→Bool} {l:List α} {i:Nat} {x:α} (hx:l[i]? =some x) (h:p x=false):l.all p=false:=by
 cases ha:l.all p
 ·rfl
 ·rw[List.all_eq_true] at ha
  rw[ha x (List.mem_of_getElem? hx)] at h
  cases h
set_option maxRecDepth 100000 in
set_option maxHeartbeats 8000000 in
theorem mIs_ok (m:Mt) (hl:m.ch.length < 1000000):APure Tryd.prog 47 [m.av] (.bool (isM m)):=by
 intro M
 refine acalls_of tabOK Tryd.func47 rfl (by decide) (by simp[Tryd.f47]) ?_
 have lc:=len_map (fun n=>AV.int .i64 n) m.ch
 have k1:=within_ok m.size 1000000000
 have k2:=within_ok m.mode 4095
 unfold isM
 repeat' (first|refine DW_VI tabs rfl lc ?_|refine DW_A tabs rfl ?_|refine DW_nil ?_|refine W_A rfl ?_)
 refine W_count m.ch.length (fun i f N=>N=M∧((m.ch.take i).all (fun n=>inR n 4294967295)=true)∧f=⟨[(1,.ref m.cells),(6,iA m.ch .none),(7,.int .i64 (m.ch.length:Int)),(8,.int .i64 (i:Int))],[]⟩) (Nat.zero_le _) ⟨rfl,by simp,rfl⟩ (Joint.le ?_ (Mem.le_refl _)) ?_
 ·skip
  repeat (refine AF.le_cons rfl ?_)
  exact AF.le_nil rfl
 rintro i f N hi ⟨rfl,hinv,rfl⟩
 by_cases h1:i < m.ch.length
 ·have d1:decide ((i:Int) < (m.ch.length:Int))=true:=by simp;omega
  have hx:m.ch[i]? =some m.ch[i]:=List.getElem?_eq_getElem h1
  have fi:=wrap_succ (i:=i) (by omega)
  have ht:=take_succ hx
  have hm:=List.getElem_mem h1
  generalize m.ch[i]=x at hx ht hm
  have kx:=within_ok x 4294967295
  cases h:inR x 4294967295
  ·rw[h] at kx
   rw[all_no hx h]
   repeat' (first|refine DW_VB tabs rfl d1 ?_|refine DW_VI tabs rfl (by first|exact lc|exact fi) ?_|refine DW_A tabs rfl ?_|refine DW_nil ?_|refine W_A rfl ?_|refine DW_C rfl kx ?_|refine DW_ix tabOK rfl (ixN hx) ?_)
   exact⟨rfl,_,rfl,rfl,rfl⟩
  ·rw[h] at kx
   repeat' (first|refine DW_VB tabs rfl d1 ?_|refine DW_VI tabs rfl (by first|exact lc|exact fi) ?_|refine DW_A tabs rfl ?_|refine DW_nil ?_|refine W_A rfl ?_|refine DW_C rfl kx ?_|refine DW_ix tabOK rfl (ixN hx) ?_)
   refine⟨h1,_,_,⟨rfl,(all_take hx hinv h),rfl⟩,Joint.le ?_ (Mem.le_refl _)⟩
   repeat (refine AF.le_cons rfl ?_)
   exact AF.le_nil rfl
 ·have d1:decide ((i:Int) < (m.ch.length:Int))=false:=by simp;omega
  obtain rfl:i=m.ch.length:=by omega
  rw[List.take_length] at hinv
  rw[hinv]
  cases h1:inR m.size 1000000000
  ·rw[h1] at k1
   repeat' (first|refine DW_VB tabs rfl d1 ?_|refine DW_VI tabs rfl lc ?_|refine DW_A tabs rfl ?_|refine DW_nil ?_|refine W_A rfl ?_|refine DW_C rfl k1 ?_)
   exact⟨rfl,_,rfl,rfl,rfl⟩
  ·rw[h1] at k1
   cases h2:inR m.mode 4095
   ·rw[h2] at k2
    repeat' (first|refine DW_VB tabs rfl d1 ?_|refine DW_VI tabs rfl lc ?_|refine DW_A tabs rfl ?_|refine DW_nil ?_|refine W_A rfl ?_|refine DW_C rfl k1 ?_|refine DW_C rfl k2 ?_)
    exact⟨rfl,_,rfl,rfl,rfl⟩
   ·rw[h2] at k2
    by_cases h3:m.ch.length≤16
    ·have d3:decide ((m.ch.length:Int)≤16)=true:=by simp;omega
     rw[decide_eq_true h3]
     repeat' (first|refine DW_VB tabs rfl (by first|exact d1|exact d3) ?_|refine DW_VI tabs rfl lc ?_|refine DW_A tabs rfl ?_|refine DW_nil ?_|refine W_A rfl ?_|refine DW_C rfl k1 ?_|refine DW_C rfl k2 ?_)
     exact⟨rfl,_,rfl,rfl,rfl⟩
    ·have d3:decide ((m.ch.length:Int)≤16)=false:=by simp;omega
     rw[decide_eq_false h3]
     repeat' (first|refine DW_VB tabs rfl (by first|exact d1|exact d3) ?_|refine DW_VI tabs rfl lc ?_|refine DW_A tabs rfl ?_|refine DW_nil ?_|refine W_A rfl ?_|refine DW_C rfl k1 ?_|refine DW_C rfl k2 ?_)
     exact⟨rfl,_,rfl,rfl,rfl⟩
end Go.Proofs.YtbcaejhhgkcgpaaDoor
namespace Go.Proofs.YtbcaejhhgkcgpaaDoor
open Go.Ab
theorem mt_eq {m k:Mt}:m=k↔m.size=k.size∧m.mode=k.mode∧m.ch=k.ch:=by
 obtain⟨a,b,c⟩:=m
 obtain⟨d,e,f⟩:=k
 simp
set_option maxRecDepth 100000 in
set_option maxHeartbeats 8000000 in
theorem rmSame_ok (m k:Mt) (hm:m.ch.length < 1000000) (hk:k.ch.length < 1000000):APure Tryd.prog 25 [m.av,k.av] (.bool (decide (m=k))):=by
 intro M
 refine acalls_of tabOK Tryd.func25 rfl (by decide) (by simp[Tryd.f25]) ?_
 have ki:=rInts_ok m.ch k.ch .none .none (by omega) (by omega)
 cases d1:decide (m.size=k.size)
 ·rw[decide_eq_false (p:=m=k) (by rintro rfl;simp at d1)]
  repeat' (first|refine DW_VB tabs rfl d1 ?_|refine DW_A tabs rfl ?_|refine DW_nil ?_|refine W_A rfl ?_)
  exact⟨rfl,_,rfl,rfl,rfl⟩
 ·cases d2:decide (m.mode=k.mode)
  ·rw[decide_eq_false (p:=m=k) (by rintro rfl;simp at d2)]
   repeat' (first|refine DW_VB tabs rfl (by first|exact d1|exact d2) ?_|refine DW_A tabs rfl ?_|refine DW_nil ?_|refine W_A rfl ?_)
   exact⟨rfl,_,rfl,rfl,rfl⟩
  ·have e:decide (m=k)=decide (m.ch=k.ch):=by
    rw[decide_eq_decide,mt_eq]
    simp at d1 d2
    simp[d1,d2]
   rw[e]
   repeat' (first|refine DW_VB tabs rfl (by first|exact d1|exact d2) ?_|refine DW_A tabs rfl ?_|refine DW_nil ?_|refine W_A rfl ?_|refine DW_C rfl ki ?_)
   exact⟨rfl,_,rfl,rfl,rfl⟩
theorem getNum_lt {s r:Bytes} {n:Nat} (h:getNum s=some (n,r)):r.length < s.length∧n < 4294967296:=by
 cases s with
 |nil=>cases h
 |cons c q=>
  by_cases hc:4 < c.toNat∨q.length < c.toNat∨(q.take c.toNat).head?=some 0
  ·rw[getNum_none hc] at h
   cases h
  ·rw[getNum_some hc] at h
   cases h
   refine⟨by rw[List.length_drop,List.length_cons];omega,num_lt 4 _ ?_⟩
   rw[List.length_take]
   omega
def nums (s:Bytes):Option (List Nat):=
 match h:getNum s with
 |none=>if s=[] then some [] else none
 |some (n,r)=>(nums r).map (n::·)
termination_by s.length
decreasing_by exact (getNum_lt h).1
theorem nums_nil:nums []=some []:=by
 rw[nums]
 rfl
theorem nums_some {s r:Bytes} {n:Nat} (h:getNum s=some (n,r)):nums s=(nums r).map (n::·):=by
 rw[nums]
 split
 ·rename_i e
  rw[h] at e
  cases e
 ·rename_i e
  rw[h] at e
  cases e
  rfl
theorem nums_none {s:Bytes} (h:getNum s=none) (hs:s≠[]):nums s=none:=by
 rw[nums]
 split
 ·rw[if_neg hs]
 ·rename_i e
  rw[h] at e
  cases e
def nI (l:List Nat):List Int:=l.map fun n:Nat=>(n:Int)
@[simp] theorem nI_len (l:List Nat):(nI l).length=l.length:=by simp[nI]
def mtOf (a b c:Nat) (l:List Nat):Mt×Int:=if c=l.length∧isM ⟨a,b,nI l⟩=true then (⟨a,b,nI l⟩,0) else (zeroMt,30)
def getMo:Option (List Nat)→Mt×Int
 |some (a::b::c::l)=>mtOf a b c l
 |_=>(zeroMt,30)
theorem getMo_yes {a b c:Nat} {l:List Nat} (hc:c=l.length) (hm:isM ⟨a,b,nI l⟩=true):getMo (some (a::b::c::l))=(⟨a,b,nI l⟩,0):=if_pos ⟨hc,hm⟩
theorem getMo_no {a b c:Nat} {l:List Nat} (h:c=l.length→isM ⟨a,b,nI l⟩=false):getMo (some (a::b::c::l))=(zeroMt,30):=if_neg (by rintro⟨hc,hm⟩;rw[h hc] at hm;cases hm)
def getM (s:Bytes):Mt×Int:=getMo (nums s)
def gmA (x:Mt×Int):AV:=.tup [x.1.av,.int .i64 x.2]
theorem closed_gm (x:Mt×Int):Closed (gmA x):=closed_tup (closed2 (closed_mt _) closed_int)
def SubCL (k:Nat):List AV→List AV→Prop
 |[],[]=>True
 |x::l,y::m=>SubC k x y∧SubCL k l m
 |_,_=>False
theorem SubCL.len {k:Nat}:∀{l m:List AV},SubCL k l m→l.length=m.length
 |[],[],_=>rfl
 |_::_,_::_,h=>congrArg (·+1) (SubCL.len h.2)
theorem SubCL.get {k:Nat}:∀{l m:List AV},SubCL k l m→∀(i:Nat) (x y:AV),l[i]? =some x→m[i]? =some y→SubC k x y
 |[],[],_,i,_,_,hx,_=>by simp at hx
 |a::l,b::m,h,0,x,y,hx,hy=>by cases hx;cases hy;exact h.1
 |a::l,b::m,h,i+1,x,y,hx,hy=>SubCL.get h.2 i x y hx hy
theorem SubC.aggL {k:Nat} {l m:List AV} (h:SubCL k l m):SubC k (.agg l) (.agg m):=by
 intro μ F w v hr
 obtain⟨c,rfl,h1,h2,h3⟩:=hr.agg_inv
 refine .agg m c (h1.trans h.len) (fun i y u hy hu=>?_) h3
 have hi:i < l.length:=by rw[h.len];exact (List.getElem?_eq_some_iff.1 hy).1
 exact h.get i _ y (List.getElem?_eq_getElem hi) hy μ F w u (h2 i _ u (List.getElem?_eq_getElem hi) hu)
theorem sub_zero {k:Nat} {sz:Nat} {t:Tag}:SubC k (.agg [.int .i64 0,.int .i64 0,.sl sz [] t]) zeroMt.av:=
 SubC.aggL ⟨SubC.of_closed closed_int,SubC.of_closed closed_int,SubC.nil,trivial⟩
def readM (v:Bytes):Mt×Bool×Int:=
 match v with
 |[]=>(zeroMt,false,30)
 |c::r=>if c=0∧r=[] then (zeroMt,true,0) else if c=1 then ((getM r).1,false,(getM r).2) else (zeroMt,false,30)
def rmA (x:Mt×Bool×Int):AV:=.tup [x.1.av,.bool x.2.1,.int .i64 x.2.2]
theorem closed_rm (x:Mt×Bool×Int):Closed (rmA x):=closed_tup (closed3 (closed_mt _) closed_bool closed_int)
end Go.Proofs.YtbcaejhhgkcgpaaDoor
