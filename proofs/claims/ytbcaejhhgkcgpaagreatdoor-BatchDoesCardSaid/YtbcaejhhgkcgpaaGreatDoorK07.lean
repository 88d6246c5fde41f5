/- Parts of the proof, one behind the other. No further condition. -/
import Derived.Test.YtbcaejhhgkcgpaaGreatDoorK06
import Derived.WideLaws
import Derived.Laws.Pointers
import Derived.Test.YtbcaejhhgkcgpaaGreatDoorChecked
set_option linter.unusedVariables false
set_option linter.unusedSimpArgs false
namespace Go.Ab
open Go.RowKit
theorem opG_append_new {P:Program} {τ:Tab} (hτ:TabOK P τ) {t tx e:TypeId} {ti ei xi:TI} (hin:AppIn P τ t e ti ei) (hxi:lookup τ tx=some xi) {o:Oper} {s x:Operand}
  (ho:o.op=.call {callee:=.builtin .append,args:=#[s,x],argTypes:=#[t,tx]}) {ρ:Operand→AV} {M:Mem} {sz:Nat} {xs ys:List AV} (hS:ρ s=.sl sz xs .full) (hsz:sz=ei.size∨xs=[]) (hne:ys≠[])
  (hf:srcFits xi.k (ρ x)=true) (hX:srcOf ei.size (ρ x)=some ys) (hb:(xs.length+ys.length)*ei.bytes≤140737488355328) (hlen:xs.length+ys.length≤140737488355328) {Kp:AV→Mem→Prop}:
  OpG P o ρ M (fun u M'=>Appended M (flat xs) xs.length ei.size ys M u M') Kp:=by
 intro μ F w a hg hr next Q' hnext _
 have hs:=hr s (by simp[ho,Op.operands,Call.operands])
 have hx:=hr x (by simp[ho,Op.operands,Call.operands])
 rw[hS] at hs
 obtain⟨A,cap,b,off,vals,hv,hsx0,hcap0,hA,hat,htag⟩:=hs.sl_flat
 have htag':cap=xs.length:=htag
 have hsx:∀y,y∈xs→y.cells.length=ei.size:=by
  rcases hsz with rfl|rfl
  ·exact hsx0
  ·simp
 obtain⟨hsy,news,hsrc,hnew⟩:=src_of hτ hxi hf hX hx
 obtain⟨ft,dt,zt,HT⟩:=TI.spec hτ hin.tl
 obtain⟨fe,de,ze,HE⟩:=TI.spec hτ hin.el
 have hfi:=HT.fits
 rw[hin.tk] at hfi
 have hdd:dt=.slice e:=by
  cases dt<;>simp[TK.fits] at hfi
  rw[hfi]
 subst hdd
 have hlx:=flat_length hsx
 have hly:=flat_length hsy
 have hnl:=hsrc.newsLen
 have hsrc':Src P fe.size tx (a.eval x) ys.length news w:=by rw[HE.size];exact hsrc
 have hex:∀v w',(Builtin.append_ #[t,tx] o.type #[a.eval s,a.eval x]).run P w=.ok v w'→(execOp a.eval o).run P w=.ok (.value v) w':=by
  intro v w' h
  simp[execOp,ho,resolve,invoke,builtin,h]
 unfold Oper.wp
 have hyl:0 < ys.length:=List.length_pos_iff.2 hne
 have hgrow:cap < xs.length+ys.length:=by omega
 obtain⟨hv1,hv2⟩:=flat_vals (vals:=vals) hat
 let olds:=(List.range (flat xs).length).map vals
 have hol:olds.length=xs.length*ei.size:=by simp[olds,hlx]
 have hold:(Builtin.firstCells fe.size xs.length (.slice A xs.length cap)).run P w.drew=.ok olds.toArray w.drew:=by
  rw[HE.size]
  cases A with
  |none=>
   have h0:xs=[]:=by
    cases xs with
    |nil=>rfl
    |cons a r=>have:=hA (by simp);cases this
   subst h0
   simp[Builtin.firstCells,olds,flat]
  |some a=>
   by_cases h0:0 < xs.length
   ·have:=hA h0
    cases this
    exact run_firstCells_some w.drew ei.size xs.length _ _ _ olds hol (fun j u hu=>hv1 j u hu)
   ·have:xs=[]:=List.eq_nil_of_length_eq_zero (by omega)
    subst this
    simp[Builtin.firstCells,loadCells,loadCellsFrom,olds,flat]
 have hfit:Builtin.nextslicecap (xs.length+ys.length) cap*fe.bytes≤281474976710656:=by
  rw[HE.bytes]
  exact growslice_fits hgrow hb
 have hrun:=run_append_grow_src (P:=P) w t tx o.type e fe ze HT.und HE.info HE.zero A xs.length cap olds hold (a.eval x) ys.length news hsrc' hgrow (by omega) hfit
 have hge:=grownCap_ge w (xs.length+ys.length) cap e
 generalize hcap:grownCap w (xs.length+ys.length) cap e=cap' at hrun hge
 let c':Array Value:=(olds++news).toArray++Builtin.zeroCells ze.cells (cap' - (xs.length+ys.length))
 let w':World:=w.drew.alloc (.cells c' e)
 have hzs:ze.cells.size=ei.size:=by
  have:=(sameCells_get HE.cells).1
  simp only[Array.length_toList] at this
  rw[this,HE.len]
 have hc's:c'.size=cap'*ei.size:=by
  simp only[c',Array.size_append,List.size_toArray,List.length_append,hol,hnl,size_zeroCells,hzs,←Nat.add_mul]
  rw[Nat.add_sub_cancel' hge]
 have hheap:w'.heap[w.heap.size]? =some (.cells c' e (0,0)):=heap_alloc_new w.drew _
 have hbelow:Below w.heap.size w w':=⟨rfl,rfl,rfl,by simp[w',World.alloc],fun k hk=>heap_alloc_old w.drew _ hk⟩
 let l':List AV:=flat xs++flat ys++List.replicate ((cap' - (xs.length+ys.length))*ei.size) .top
 have hlt:(flat xs).length=xs.length*ei.size:=hlx
 have hl':l'.length=cap'*ei.size:=by
  simp only[l',List.length_append,List.length_replicate,hlt,hly,←Nat.add_mul]
  rw[Nat.add_sub_cancel' hge]
 obtain⟨hev,hG⟩:=gam_push hg hbelow (l:=l') (c:=c') (ty:=e) (b:=w.heap.size) (Nat.le_refl _) hheap (by rw[hc's,hl']) (by
   intro i v hi
   simp only[c'] at hi
   by_cases h1:i < (olds++news).length
   ·rw[Array.getElem?_append_left (by simpa using h1)] at hi
    simp only[List.getElem?_toArray] at hi
    rcases List.mem_append.1 (List.mem_of_getElem? hi) with h|h
    ·exact hv2 _ h
    ·exact hsrc.one _ h
   ·rw[Array.getElem?_append_right (by simpa using h1)] at hi
    exact zeroCells_one (z:=ze.cells) (fun u hu=>by
     obtain⟨j,hj⟩:=List.getElem?_of_mem (Array.mem_toList_iff.2 hu)
     have hjl:j < ei.zero.length:=by
      rw[HE.len,←hzs,←Array.length_toList]
      exact (List.getElem?_eq_some_iff.1 hj).1
     obtain⟨rfl,hp⟩:=(sameCells_get HE.cells).2 j u _ (by simpa using hj) (List.getElem?_eq_getElem hjl)
     exact one_toV hp) (by rw[hzs];exact hin.pos) _ v (Array.mem_of_getElem? hi)) (by
   intro i q v hq hi
   simp only[l'] at hq
   simp only[c'] at hi
   by_cases h1:i < xs.length*ei.size
   ·rw[List.append_assoc,List.getElem?_append_left (by rw[hlt];exact h1)] at hq
    rw[Array.getElem?_append_left (by simp only[List.size_toArray,List.length_append];omega)] at hi
    simp only[List.getElem?_toArray] at hi
    rw[List.getElem?_append_left (by rw[hol];exact h1)] at hi
    simp only[olds,List.getElem?_map,List.getElem?_range (show i < (flat xs).length by rw[hlt];exact h1),Option.map_some,Option.some.injEq] at hi
    rw[←hi]
    exact (hat i q hq).rep
   ·by_cases h2:i < xs.length*ei.size+(flat ys).length
    ·rw[List.append_assoc,List.getElem?_append_right (by omega),hlt,List.getElem?_append_left (by omega)] at hq
     rw[Array.getElem?_append_left (by simp only[List.size_toArray,List.length_append];omega)] at hi
     simp only[List.getElem?_toArray] at hi
     rw[List.getElem?_append_right (by omega),hol] at hi
     exact hnew _ q v hq hi
    ·rw[List.getElem?_append_right (by simp only[List.length_append];omega)] at hq
     have:=List.mem_of_getElem? hq
     rw[List.mem_replicate] at this
     rw[this.2]
     exact .top _)
 rw[hv] at hex
 rw[hex _ _ hrun]
 refine hnext _ _ _ _ _ hev hG (rep_osl (b:=w.heap.size) (by simp[Mu.put])) ⟨cap',l',hge,hl',?_,rfl,rfl⟩
 simp only[l']
 rw[List.take_append_of_le_length (by rw[List.length_append,hlt,hly,←Nat.add_mul];exact Nat.le_refl _)]
 apply List.take_of_length_le
 rw[List.length_append,hlt,hly,←Nat.add_mul]
 exact Nat.le_refl _
theorem opR_oslice {P:Program} {τ:Tab} (hτ:TabOK P τ) {t e:TypeId} {ti ei:TI} (ht:lookup τ t=some ti) (hk:ti.k=.slice e) (he:lookup τ e=some ei) {X:Operand} {H:Option Operand} {ty:TypeId} {ρ:Operand→AV} {M:Mem} {id n cap sz:Nat} {l:List AV} {h:Int}
  (hX:ρ X=.osl id 0 n cap sz) (hM:M.get id=some (.cells l)) (hH:bnd (H.map ρ) n=some h) (h0:0≤h) (h2:h≤n) (hnc:n≤cap):OpR P (.slice t X none H none) ty ρ M (.osl id 0 h.toNat cap sz):=by
 intro μ F w ρc o hg ho hty hr
 have hx:=hr X (by simp[Op.operands])
 rw[hX] at hx
 obtain⟨b,hb,hv⟩:=gam_osl hg hM hx
 obtain⟨ft,dt,zt,HT⟩:=TI.spec hτ ht
 obtain⟨fe,de,ze,HE⟩:=TI.spec hτ he
 have hf:=HT.fits
 rw[hk] at hf
 have hdd:dt=.slice e:=by
  cases dt<;>simp[TK.fits] at hf
  rw[hf]
 subst hdd
 have hbd:=run_bounds (P:=P) (w:=w) (isS:=true) (n:=n) (m:=cap) (L:=none) (.inl ⟨rfl,rfl⟩) (bnd_spec hH fun x hx=>hr x (by simp[Op.operands,hx])) (Int.le_refl 0) h0 (by omega)
 obtain⟨hn,rfl⟩:=Int.eq_ofNat_of_zero_le h0
 simp only[Int.toNat_natCast] at hbd ⊢
 refine⟨.slice (some ⟨b,0,none⟩) hn cap,w,?_,Below.refl _ _,rep_osl hb⟩
 simp only[execOp,ho,hv,Instr.sliceAt,Sem.run_bind,run_underlying HT.und,Result.andThen_ok,Instr.slice,Option.map_none,hbd,run_sizeOf w HE.info,HE.cellsOf,Sem.run_pure]
 simp[Addr.add_lit]
section
variable {P:Program} {τ:Tab} {ops:Array Oper} {cls:Nat→Cls} {Q:AX→AF→Mem→Prop} {ds:List ADef} {ls:List Nat} {i:Nat} {o:Oper} {t:List (Nat×AV)} {M:Mem}
theorem DW_olen (hτ:TabOK P τ) {d:Nat} (hi:ops[i]? =some o) (hw:wantedA ops ⟨t,ds⟩ o=some true) (hd:o.dst=some d) (hc:notP (cls i)=true) {x:Operand} {ts e:TypeId} (ho:o.op=.call {callee:=.builtin .len,args:=#[x],argTypes:=#[ts]})
  {id off n cap sz:Nat} {l:List AV} (hx:AF.ev ⟨t,ds⟩ x=.osl id off n cap sz) (hM:M.get id=some (.cells l)) {ti:TI} (ht:lookup τ ts=some ti) (hk:ti.k=.slice e) (h:DW P ops cls Q ds ls ((d,.int .i64 n)::t) M):DW P ops cls Q ds (i::ls) t M:=
 DW_ofR hi hw hd hc (by rw[ho];exact opR_olen hτ ht hk hx hM) h
theorem DW_oslice (hτ:TabOK P τ) {d:Nat} (hi:ops[i]? =some o) (hw:wantedA ops ⟨t,ds⟩ o=some true) (hd:o.dst=some d) (hc:notP (cls i)=true) {ty e:TypeId} {X:Operand} {H:Option Operand} (ho:o.op=.slice ty X none H none)
  {id n cap sz:Nat} {l:List AV} (hX:AF.ev ⟨t,ds⟩ X=.osl id 0 n cap sz) (hM:M.get id=some (.cells l)) {ti ei:TI} (ht:lookup τ ty=some ti) (hk:ti.k=.slice e) (he:lookup τ e=some ei) {h:Int} (hH:bnd (H.map (AF.ev ⟨t,ds⟩)) n=some h) (h0:0≤h) (h2:h≤n) (hnc:n≤cap)
  (hh:DW P ops cls Q ds ls ((d,.osl id 0 h.toNat cap sz)::t) M):DW P ops cls Q ds (i::ls) t M:=
 DW_ofR hi hw hd hc (by rw[ho];exact opR_oslice hτ ht hk he hX hM hH h0 h2 hnc) hh
theorem DW_oapp (hτ:TabOK P τ) {d:Nat} (hi:ops[i]? =some o) (hw:wantedA ops ⟨t,ds⟩ o=some true) (hd:o.dst=some d) (hc:isE (cls i)=true) {ty tx e:TypeId} {s x:Operand} (ho:o.op=.call {callee:=.builtin .append,args:=#[s,x],argTypes:=#[ty,tx]})
  {id n cap sz:Nat} {l ys:List AV} (hS:AF.ev ⟨t,ds⟩ s=.osl id 0 n cap sz) (hM:M.get id=some (.cells l)) {ti ei xi:TI} (ht:lookup τ ty=some ti) (hk:ti.k=.slice e) (he:lookup τ e=some ei) (hp:decide (0 < ei.size)=true) (hxi:lookup τ tx=some xi)
  (hsz:sz=ei.size) (hf:srcFits xi.k (AF.ev ⟨t,ds⟩ x)=true) (hX:srcOf ei.size (AF.ev ⟨t,ds⟩ x)=some ys) (hl:l.length=cap*sz) (hnc:n≤cap) (hb:(n+ys.length)*ei.bytes≤140737488355328) (hlen:n+ys.length≤140737488355328)
  (h:∀(cap':Nat) (l':List AV),n+ys.length≤cap'→l'.length=cap'*sz→l'.take ((n+ys.length)*sz)=l.take (n*sz)++flat ys→DW P ops cls Q ds ls ((d,.osl M.next 0 (n+ys.length) cap' sz)::t) ((M.drop id).push (.cells l'))):DW P ops cls Q ds (i::ls) t M:=by
 refine DW_run hi hw ?_
 refine SC.of_G hc (by intro c hc;rw[ho] at hc;cases hc) ?_
 ·refine OpG.mono (opG_append_osl hτ ⟨ht,hk,he,of_decide_eq_true hp⟩ hxi ho hS hsz hM hl hnc hf hX hb hlen) ?_
  rintro u M' ⟨cap',l',h1,h2,h3,rfl,rfl⟩
  have:=h cap' l' h1 h2 h3
  simpa [AF.put,hd] using this
theorem DW_napp (hτ:TabOK P τ) {d:Nat} (hi:ops[i]? =some o) (hw:wantedA ops ⟨t,ds⟩ o=some true) (hd:o.dst=some d) (hc:isE (cls i)=true) {ty tx e:TypeId} {s x:Operand} (ho:o.op=.call {callee:=.builtin .append,args:=#[s,x],argTypes:=#[ty,tx]})
  {sz:Nat} {xs ys:List AV} (hS:AF.ev ⟨t,ds⟩ s=.sl sz xs .full) {ti ei xi:TI} (ht:lookup τ ty=some ti) (hk:ti.k=.slice e) (he:lookup τ e=some ei) (hp:decide (0 < ei.size)=true) (hxi:lookup τ tx=some xi)
  (hsz:sz=ei.size∨xs=[]) (hf:srcFits xi.k (AF.ev ⟨t,ds⟩ x)=true) (hX:srcOf ei.size (AF.ev ⟨t,ds⟩ x)=some ys) (hne:ys≠[]) (hb:(xs.length+ys.length)*ei.bytes≤140737488355328) (hlen:xs.length+ys.length≤140737488355328)
  (h:∀(cap':Nat) (l':List AV),xs.length+ys.length≤cap'→l'.length=cap'*ei.size→l'.take ((xs.length+ys.length)*ei.size)=flat xs++flat ys→DW P ops cls Q ds ls ((d,.osl M.next 0 (xs.length+ys.length) cap' ei.size)::t) (M.push (.cells l'))):DW P ops cls Q ds (i::ls) t M:=by
 refine DW_run hi hw ?_
 refine SC.of_G hc (by intro c hc;rw[ho] at hc;cases hc) ?_
 ·refine OpG.mono (opG_append_new hτ ⟨ht,hk,he,of_decide_eq_true hp⟩ hxi ho hS hsz hne hf hX hb hlen) ?_
  rintro u M' ⟨cap',l',h1,h2,h3,rfl,rfl⟩
  have:=h cap' l' h1 h2 h3
  simpa [AF.put,hd] using this
end
def ren (μ:Mu) (k id:Nat):Mu:=fun i=>if i < k then μ i else if i=k then μ id else none
theorem ren_own {μ:Mu} {k id b o:Nat} (h:Own (ren μ k id) b o):Own μ b o:=by
 have key:∀i x,ren μ k id i=some x→∃j,μ j=some x:=by
  intro i x hx
  unfold ren at hx
  split at hx
  ·exact⟨i,hx⟩
  ·split at hx
   ·exact⟨id,hx⟩
   ·cases hx
 obtain⟨i,h1|⟨e,g,h1,he⟩⟩:=h
 ·obtain⟨j,hj⟩:=key i _ h1
  exact⟨j,.inl hj⟩
 ·obtain⟨j,hj⟩:=key i _ h1
  exact⟨j,.inr ⟨e,g,hj,he⟩⟩
theorem ren_free {μ:Mu} {F:Frm} {k id b o:Nat} (h:Free μ F b o):Free (ren μ k id) F b o:=⟨h.1,fun ho=>h.2 (ren_own ho)⟩
def SubK (k id:Nat) (x y:AV):Prop:=∀(μ:Mu) (F:Frm) (w:World) (v:Value),Rep μ F w x v→Rep (ren μ k id) F w y v
theorem SubK.of_closed {k id:Nat} {x:AV} (h:Closed x):SubK k id x x:=fun μ F w v hr=>h μ (ren μ k id) F F w v (fun _ _ hf=>ren_free hf) hr
theorem SubK.top {k id:Nat} {x:AV}:SubK k id x .top:=fun _ _ _ v _=>.top v
theorem SubK.pre {k id:Nat} {x y z:AV} (h:Sub x y) (h2:SubK k id y z):SubK k id x z:=fun μ F w v hr=>h2 _ _ _ _ (h μ F w v hr)
theorem SubK.ptr {k id j off:Nat} (h:decide (j < k)=true):SubK k id (.ptr j off) (.ptr j off):=by
 intro μ F w v hr
 have h':=of_decide_eq_true h
 cases hr with
 |ptr _ _ _ h1 h2 h3=>exact .ptr _ _ _ h1 (by simp[ren,h',h2]) (fun b hb=>h3 b (by simpa [ren,h'] using hb))
theorem SubK.osl {k id off n cap sz:Nat}:SubK k id (.osl id off n cap sz) (.osl k off n cap sz):=by
 intro μ F w v hr
 cases hr with
 |osl _ _ _ _ _ _ h1 h2 h3=>exact .osl _ _ _ _ _ _ h1 (by simp[ren,h2]) (fun b hb=>h3 b (by simpa [ren] using hb))
def SubsK (k id:Nat) (f:AF):List (Nat×AV)→Prop
 |[]=>True
 |(i,x)::r=>SubK k id (f.get i) x∧SubsK k id f r
theorem subsK_get {k id:Nat} {f:AF}:∀{l:List (Nat×AV)} {d:List ADef},SubsK k id f l→∀t,SubK k id (f.get t) (AF.get ⟨l,d⟩ t)
 |[],d,_,t=>SubK.top
 |(i,x)::r,d,h,t=>by
  by_cases e:t=i
  ·subst e
   have:AF.get ⟨(t,x)::r,d⟩ t=x:=by simp[AF.get,lookup]
   rw[this];exact h.1
  ·have:AF.get ⟨(i,x)::r,d⟩ t=AF.get ⟨r,d⟩ t:=by simp[AF.get,lookup,e]
   rw[this];exact subsK_get h.2 t
def AllK (k id:Nat) (l:List AV):Prop:=∀x,x∈l→SubK k id x x
def DefsK (k id:Nat):List ADef→Prop
 |[]=>True
 |d::r=>d.mark=none∧AllK k id d.cap∧AllK k id d.args∧AllK k id (d.keep.map (·.2))∧DefsK k id r
def ObjsK (k id:Nat) (M:Mem):List (Nat×AObj)→Prop
 |[]=>True
 |(i,o)::r=>i < k∧M.get i=some o∧(match o with|.cells l=>AllK k id l|.spare _=>True|.raw _ _ _ _=>False)∧ObjsK k id M r
theorem objsK_get {k id:Nat} {M:Mem}:∀{l:List (Nat×AObj)} {i:Nat} {o:AObj},ObjsK k id M l→lookup l i=some o→i < k∧M.get i=some o∧(match o with|.cells l=>AllK k id l|.spare _=>True|.raw _ _ _ _=>False)
 |[],i,o,_,h=>by cases h
 |(j,p)::r,i,o,h,hl=>by
  simp only[lookup] at hl
  split at hl
  ·rename_i e
   subst e
   cases hl
   exact⟨h.1,h.2.1,h.2.2.1⟩
  ·exact objsK_get h.2.2.2 hl
theorem repL_K {k id:Nat} {μ:Mu} {F:Frm} {w:World} {l:List AV} {c:Array Value} (h:AllK k id l) (hr:RepL μ F w l c):RepL (ren μ k id) F w l c:=
 ⟨hr.1,fun i x v hx hv=>h x (List.mem_of_getElem? hx) _ _ _ _ (hr.2 i x v hx hv)⟩
theorem defs_K {k id:Nat} {μ:Mu} {F:Frm} {w:World}:∀{ds:List ADef} {rs:List Deferred},DefsK k id ds→DefRep μ F w ds rs→DefRep (ren μ k id) F w ds rs
 |[],[],_,_=>trivial
 |[],_::_,_,h=>h.elim
 |_::_,[],_,h=>h.elim
 |_::_,_::_,⟨k0,k1,k2,_,k4⟩,⟨⟨h1,h3,_⟩,h4⟩=>⟨⟨fun h=>(h1 h).imp fun _ h=>⟨h.1,repL_K k1 h.2⟩,repL_K k2 h3,fun y hy=>by rw[k0] at hy;cases hy⟩,defs_K k4 h4⟩
theorem kept_K {k id:Nat}:∀{ds:List ADef},DefsK k id ds→∀p,p∈keepT ds→SubK k id p.2 p.2
 |[],_,p,hp=>by cases hp
 |d::r,⟨_,_,_,k3,k4⟩,p,hp=>by
  simp only[keepT,List.mem_append] at hp
  rcases hp with hp|hp
  ·exact k3 _ (List.mem_map.2 ⟨p,hp,rfl⟩)
  ·exact kept_K k4 p hp
theorem Joint.move {n0:Nat} {f:AF} {M:Mem} {k id:Nat} {l:List AV} (hk:n0≤k) (hki:k≤id) (hM:M.get id=some (.cells l)) {l2:List AV} (hl2:l2.length=l.length) (hl:∀(j:Nat) (x y:AV),l[j]? =some x→l2[j]? =some y→SubK k id x y) {t:List (Nat×AV)} {ol:List (Nat×AObj)} (hd:DefsK k id f.d) (ht:SubsK k id f t) (ho:ObjsK k id M ol):
  Joint n0 f M ⟨t,f.d⟩ ⟨k+1,(k,.cells l2)::ol⟩:=by
 intro μ0 μ F w0 w n a hn he hg hr
 obtain⟨b,c,ty,o1,o2,o3,o4,o5⟩:=hg.obj id l hM
 have hid:id < M.next:=(hg.dom id).1 (by rw[o1];simp)
 have hlies:∀i b',Lies (ren μ k id) i b'→(i < k∧Lies μ i b')∨(i=k∧Lies μ id b'):=by
  intro i b' h
  by_cases h1:i < k
  ·refine .inl ⟨h1,?_⟩
   rcases h with h|⟨e,g,h⟩
   ·exact .inl (by simpa [ren,h1] using h)
   ·exact .inr ⟨e,g,by simpa [ren,h1] using h⟩
  ·by_cases h2:i=k
   ·refine .inr ⟨h2,?_⟩
    subst h2
    rcases h with h|⟨e,g,h⟩
    ·exact .inl (by simpa [ren] using h)
    ·exact .inr ⟨e,g,by simpa [ren] using h⟩
   ·rcases h with h|⟨e,g,h⟩<;>simp[ren,h1,h2] at h
 refine⟨ren μ k id,?_,?_,⟨hr.size,fun i=>subsK_get ht i μ F w _ (hr.tmps i),defs_K hd hr.defs,fun p hp=>kept_K hd p hp _ _ _ _ (hr.kept p hp)⟩⟩
 ·refine⟨he.os,he.tape,he.output,he.size,?_,he.same,he.part,fun b o hb ho=>he.own b o hb (ren_own ho)⟩
  intro i hi
  have:=Nat.lt_of_lt_of_le (hn i hi) hk
  simp only[ren,this,if_true]
  exact he.mu i hi
 ·refine {dom:=?_,obj:=?_,spare:=?_,inj:=?_,frm:=fun b o h=>hg.frm b o (ren_own h),fit:=⟨fun b o h=>hg.fit.own b o (ren_own h),hg.fit.frm⟩,raw:=?_}
  ·intro i
   show ren μ k id i≠none↔i < k+1
   unfold ren
   split
   ·rename_i h
    have:μ i≠none:=(hg.dom i).2 (by omega)
    exact⟨fun _=>by omega,fun _=>this⟩
   ·split
    ·rename_i h
     exact⟨fun _=>by omega,fun _=>by rw[o1];simp⟩
    ·exact⟨fun h=>absurd rfl h,fun h=>by omega⟩
  ·intro i m hm
   simp only[Mem.get,lookup] at hm
   split at hm
   ·rename_i e
    subst e
    cases hm
    refine⟨b,c,ty,by simp[ren,o1],o2,by rw[o3,hl2],o4,fun j y v hy hv=>?_⟩
    have hj:j < l.length:=by rw[←hl2];exact (List.getElem?_eq_some_iff.1 hy).1
    exact hl j _ y (List.getElem?_eq_getElem hj) hy _ _ _ _ (o5 j _ v (List.getElem?_eq_getElem hj) hv)
   ·obtain⟨h1,h2,h3⟩:=objsK_get ho hm
    obtain⟨b',c',ty',p1,p2,p3,p4,p5⟩:=hg.obj i m h2
    exact⟨b',c',ty',by simp[ren,h1,p1],p2,p3,p4,fun j x v hx hv=>h3 x (List.mem_of_getElem? hx) _ _ _ _ (p5 j x v hx hv)⟩
  ·intro i g hm
   simp only[Mem.get,lookup] at hm
   split at hm
   ·cases hm
   ·obtain⟨h1,h2,_⟩:=objsK_get ho hm
    obtain⟨p,q1,q2⟩:=hg.spare i g h2
    exact⟨p,by simp[ren,h1,q1],q2⟩
  ·intro i j b' hi hj
   rcases hlies i b' hi with ⟨a1,a2⟩|⟨a1,a2⟩<;>rcases hlies j b' hj with ⟨b1,b2⟩|⟨b1,b2⟩
   ·exact hg.inj i j b' a2 b2
   ·have:=hg.inj i id b' a2 b2;omega
   ·have:=hg.inj j id b' b2 a2;omega
   ·omega
  ·intro i gg o vs t hm
   simp only[Mem.get,lookup] at hm
   split at hm
   ·cases hm
   ·exact (objsK_get ho hm).2.2.elim
theorem Joint.freeze {n0:Nat} {t:List (Nat×AV)} {ds:List ADef} {M:Mem} (i:Nat) {id n cap:Nat} {l xs:List AV} (h:AF.get ⟨t,ds⟩ i=.osl id 0 n cap 1) (hM:M.get id=some (.cells l)) (hx:l.take n=xs) (hnl:n≤l.length) (hnc:n≤cap) (h1:∀x,x∈xs→x.cells=[x]):
  Joint n0 ⟨t,ds⟩ M ⟨(i,.sl 1 xs .none)::t,ds⟩ (M.drop id):=by
 intro μ0 μ F w0 w m a hn he hg hr
 obtain⟨b,c,ty,o1,o2,o3,o4,o5⟩:=hg.obj id l hM
 have hid:id < M.next:=(hg.dom id).1 (by rw[o1];simp)
 obtain⟨μ2,k1,k2,k3,k4⟩:=gam_kill hg hid
 have hv:=hr.tmps i
 rw[h] at hv
 obtain⟨b',hb',hv'⟩:=gam_osl hg hM hv
 rw[o1] at hb'
 cases hb'
 have hlen:xs.length=n:=by rw[←hx,List.length_take];omega
 refine⟨μ2,he.trans k3,k4 _ rfl (fun j=>Mem.get_drop M id j),hr.size,?_,hr.defs.evo k3,fun p hp=>(hr.kept p hp).evo k3⟩
 intro j
 by_cases e:j=i
 ·subst e
  have:AF.get ⟨(j,.sl 1 xs .none)::t,ds⟩ j=.sl 1 xs .none:=by simp[AF.get,lookup]
  rw[this,hv',←hlen]
  have key:∀(p:Nat) (x:AV) (q:Nat) (y:AV),xs[p]? =some x→x.cells[q]? =some y→q=0∧y=x∧l[p]? =some x∧p < l.length:=by
   intro p x q y hp hq
   rw[h1 x (List.mem_of_getElem? hp)] at hq
   have hpn:p < n:=by rw[←hlen];exact (List.getElem?_eq_some_iff.1 hp).1
   rw[←hx,List.getElem?_take,if_pos hpn] at hp
   cases q with
   |zero=>simp at hq;exact⟨rfl,hq.symm,hp,by omega⟩
   |succ q=>simp at hq
  have hcell:∀p,p < l.length→c[p]? =some (c.getD p undef):=by
   intro p hp
   have:p < c.size:=by omega
   simp[Array.getD,this]
  refine .sl 1 xs .none _ _ ⟨b,0,none⟩ (fun p=>c.getD p undef) ?_ (by omega) (fun _=>⟨rfl,rfl⟩) ?_ ?_ ?_ trivial
  ·intro x hx'
   rw[h1 x hx']
   rfl
  ·intro p x q y hp hq
   obtain⟨rfl,rfl,h2,h3⟩:=key p x q y hp hq
   simp only[Nat.mul_one,Nat.add_zero]
   exact o4 p _ (hcell p h3)
  ·intro p x q y hp hq
   obtain⟨rfl,rfl,h2,h3⟩:=key p x q y hp hq
   simp only[Nat.mul_one,Nat.add_zero,Nat.zero_add]
   refine⟨by rw[cell_mk o2];exact hcell p h3,hg.frm b p ⟨id,.inl o1⟩,?_⟩
   intro ho
   obtain⟨i',hi',h4|⟨e',g',h4,_⟩⟩:=k2 b p ho
   ·exact hi' (hg.inj i' id b (.inl h4) (.inl o1))
   ·exact hi' (hg.inj i' id b (.inr ⟨e',g',h4⟩) (.inl o1))
  ·intro p x q y hp hq
   obtain⟨rfl,rfl,h2,h3⟩:=key p x q y hp hq
   simp only[Nat.mul_one,Nat.add_zero]
   exact (o5 p _ _ h2 (hcell p h3)).evo k3
 ·have:AF.get ⟨(i,.sl 1 xs .none)::t,ds⟩ j=AF.get ⟨t,ds⟩ j:=by simp[AF.get,lookup,e]
  rw[this]
  exact (hr.tmps j).evo k3
end Go.Ab
namespace Go.Ab
open Go.RowKit
theorem run_append_zeros {P:Program} {t tx ty e:TypeId} {k:IntKind} {i:TypeInfo} {z:Value} (ht:P.underlying t=some (.slice e)) (hx:P.underlying tx=some (.int k)) (hi:P.info? e=some i) (hz:i.zero=some z) (n:Nat) (h0:0 < n) (h1:n≤140737488355328) (h2:n*i.bytes≤140737488355328) (hsz:0 < i.size) (w:World) (A:Option Addr) (hold:(Builtin.firstCells i.size 0 (.slice A 0 0)).run P w.drew=.ok #[] w.drew):
  (Builtin.append_ #[t,tx] ty #[.slice A 0 0,.int .i64 n]).run P w=
   .ok (.slice (some ⟨w.heap.size,0,none⟩) n (grownCap w n 0 e))
    (w.drew.alloc (.cells (Builtin.zeroCells z.cells n++Builtin.zeroCells z.cells (grownCap w n 0 e - n)) e)):=by
 have hw:IntKind.wrap .i64 (n:Int)=n:=wrap_small (by omega) (by omega)
 have a1:¬((n:Int) < 0):=by omega
 have a2:¬(281474976710656 < (n:Int)*(i.bytes:Int)):=by
  have:((n*i.bytes:Nat):Int)=(n:Int)*(i.bytes:Int):=by push_cast;rfl
  omega
 have a3:¬(9223372036854775807 < (n:Int)):=by omega
 have a4:¬n=0:=by omega
 have a5:¬i.size=0:=by omega
 have hcap:Builtin.nextslicecap n 0=n:=by unfold Builtin.nextslicecap;rw[if_pos (by omega)]
 have a6:¬(281474976710656 < n*i.bytes):=by omega
 have a7:¬((n:Int)≤0):=by omega
 have a8:¬(9223372036854775807 < max (n:Int) 0):=by omega
 have a9:¬(n=0∨i.size=0):=by omega
 simp[Builtin.append_,run_underlying ht,run_underlying hx,sizeOf,typeInfo,zeroValue,hi,hz,hw,a1,a2,a3,a4,a5,a6,a7,a8,a9,hcap,Question.forced,newRow,grownCap,hold,asInt,asIntOf]
 intro h
 exact absurd (Nat.mul_eq_zero.1 h) a9
theorem opG_append_zeros {P:Program} {τ:Tab} (hτ:TabOK P τ) {t tx e:TypeId} {ti ei xi:TI} (hin:AppIn P τ t e ti ei) (hxi:lookup τ tx=some xi) (hxk:xi.k=.int .i64) {o:Oper} {s x:Operand}
  (ho:o.op=.call {callee:=.builtin .append,args:=#[s,x],argTypes:=#[t,tx]}) {ρ:Operand→AV} {M:Mem} {sz n:Nat} (hS:ρ s=.sl sz [] .full) (hX:ρ x=.int .i64 (n:Int)) (h0:0 < n)
  (hb:n*ei.bytes≤140737488355328) (hlen:n≤140737488355328) {Kp:AV→Mem→Prop}:
  OpG P o ρ M (fun u M'=>∃(cap':Nat) (l':List AV),n≤cap'∧l'.length=cap'*ei.size∧u=.osl M.next 0 n cap' ei.size∧M'=M.push (.cells l')) Kp:=by
 intro μ F w a hg hr next Q' hnext _
 have hs:=hr s (by simp[ho,Op.operands,Call.operands])
 have hx:=hr x (by simp[ho,Op.operands,Call.operands])
 rw[hS] at hs
 rw[hX] at hx
 generalize hxe:a.eval x=xe at hx
 cases hx
 generalize hse:a.eval s=se at hs
 have hsv:∃A,se=.slice A 0 0:=by
  cases hs with
  |sl _ _ _ A cap ad vals hsz hcap hA hone hcell hrep htag=>
   have:cap=0:=htag
   subst this
   exact⟨A,rfl⟩
 obtain⟨A,rfl⟩:=hsv
 obtain⟨ft,dt,zt,HT⟩:=TI.spec hτ hin.tl
 obtain⟨fe,de,ze,HE⟩:=TI.spec hτ hin.el
 obtain⟨fx,dx,zx,HX⟩:=TI.spec hτ hxi
 have hfi:=HT.fits
 rw[hin.tk] at hfi
 have hdd:dt=.slice e:=by
  cases dt<;>simp[TK.fits] at hfi
  rw[hfi]
 subst hdd
 have hfx:=HX.fits
 rw[hxk] at hfx
 have hdx:dx=.int .i64:=by
  cases dx<;>simp[TK.fits] at hfx
  rw[hfx]
 subst hdx
 have hex:∀v w',(Builtin.append_ #[t,tx] o.type #[a.eval s,a.eval x]).run P w=.ok v w'→(execOp a.eval o).run P w=.ok (.value v) w':=by
  intro v w' h
  simp[execOp,ho,resolve,invoke,builtin,h]
 unfold Oper.wp
 have hold:(Builtin.firstCells fe.size 0 (.slice A 0 0)).run P w.drew=.ok #[] w.drew:=by
  cases A with
  |none=>simp[Builtin.firstCells]
  |some ad=>simp[Builtin.firstCells,loadCells,loadCellsFrom]
 have hrun:=run_append_zeros (ty:=o.type) (P:=P) HT.und HX.und HE.info HE.zero n h0 hlen (by rw[HE.bytes];exact hb) (by rw[HE.size];exact hin.pos) w A hold
 have hge:=grownCap_ge w n 0 e
 generalize hcap:grownCap w n 0 e=cap' at hrun hge
 let c':Array Value:=Builtin.zeroCells ze.cells n++Builtin.zeroCells ze.cells (cap' - n)
 let w':World:=w.drew.alloc (.cells c' e)
 have hzs:ze.cells.size=ei.size:=by
  have:=(sameCells_get HE.cells).1
  simp only[Array.length_toList] at this
  rw[this,HE.len]
 have hc's:c'.size=cap'*ei.size:=by
  simp only[c',Array.size_append,size_zeroCells,hzs,←Nat.add_mul]
  rw[Nat.add_sub_cancel' hge]
 have hheap:w'.heap[w.heap.size]? =some (.cells c' e (0,0)):=heap_alloc_new w.drew _
 have hbelow:Below w.heap.size w w':=⟨rfl,rfl,rfl,by simp[w',World.alloc],fun k hk=>heap_alloc_old w.drew _ hk⟩
 let l':List AV:=List.replicate (cap'*ei.size) .top
 have hl':l'.length=cap'*ei.size:=by simp[l']
 have hone:∀(m:Nat) (v:Value),v∈Builtin.zeroCells ze.cells m→v.oneCell'=true:=fun m v hm=>zeroCells_one (z:=ze.cells) (fun u hu=>by
   obtain⟨j,hj⟩:=List.getElem?_of_mem (Array.mem_toList_iff.2 hu)
   have hjl:j < ei.zero.length:=by
    rw[HE.len,←hzs,←Array.length_toList]
    exact (List.getElem?_eq_some_iff.1 hj).1
   obtain⟨rfl,hp⟩:=(sameCells_get HE.cells).2 j u _ (by simpa using hj) (List.getElem?_eq_getElem hjl)
   exact one_toV hp) (by rw[hzs];exact hin.pos) _ v hm
 obtain⟨hev,hG⟩:=gam_push hg hbelow (l:=l') (c:=c') (ty:=e) (b:=w.heap.size) (Nat.le_refl _) hheap (by rw[hc's,hl']) (by
   intro i v hi
   have hm:=Array.mem_of_getElem? hi
   rcases Array.mem_append.1 hm with h|h
   ·exact hone _ v h
   ·exact hone _ v h) (by
   intro i q v hq hi
   have:=List.mem_of_getElem? hq
   rw[List.mem_replicate] at this
   rw[this.2]
   exact .top _)
 rw[hse,hxe] at hex
 rw[hex _ _ hrun]
 exact hnext _ _ _ _ _ hev hG (rep_osl (b:=w.heap.size) (by simp[Mu.put])) ⟨cap',l',hge,hl',rfl,rfl⟩
theorem rep_full {μ:Mu} {F:Frm} {w:World} {sz:Nat} {xs:List AV} {v:Value} (h:Rep μ F w (.sl sz xs .full) v):∃A,v=.slice A xs.length xs.length:=by
 cases h with
 |sl _ _ _ A cap ad vals hsz hcap hA hone hcell hrep htag=>
  have:cap=xs.length:=htag
  subst this
  exact⟨A,rfl⟩
theorem opP_cap {P:Program} {τ:Tab} (hτ:TabOK P τ) {t e:TypeId} {ti:TI} (ht:lookup τ t=some ti) (hk:ti.k=.slice e) {x:Operand} {ty:TypeId} {ρ:Operand→AV} {sz:Nat} {xs:List AV} (hx:ρ x=.sl sz xs .full):
  OpP P (.call {callee:=.builtin .cap,args:=#[x],argTypes:=#[t]}) ty ρ (.int .i64 xs.length):=by
 refine opP_of_same ?_
 intro μ F w ρc o ho hty hr
 have h:=hr x (by simp[Op.operands,Call.operands])
 rw[hx] at h
 obtain⟨A,hv⟩:=rep_full h
 obtain⟨ft,dt,zt,HT⟩:=TI.spec hτ ht
 have hfi:=HT.fits
 rw[hk] at hfi
 have hdd:dt=.slice e:=by
  cases dt<;>simp[TK.fits] at hfi
  rw[hfi]
 subst hdd
 exact⟨.int .i64 xs.length,by simp[execOp,ho,resolve,invoke,builtin,hv,Builtin.cap_,run_underlying HT.und,goInt],.int _ _⟩
section
variable {P:Program} {τ:Tab} {ops:Array Oper} {cls:Nat→Cls} {Q:AX→AF→Mem→Prop} {ds:List ADef} {ls:List Nat} {i:Nat} {o:Oper} {t:List (Nat×AV)} {M:Mem}
theorem DW_zapp (hτ:TabOK P τ) {d:Nat} (hi:ops[i]? =some o) (hw:wantedA ops ⟨t,ds⟩ o=some true) (hd:o.dst=some d) (hc:isE (cls i)=true) {ty tx e:TypeId} {s x:Operand} (ho:o.op=.call {callee:=.builtin .append,args:=#[s,x],argTypes:=#[ty,tx]})
  {sz n:Nat} (hS:AF.ev ⟨t,ds⟩ s=.sl sz [] .full) (hX:AF.ev ⟨t,ds⟩ x=.int .i64 (n:Int)) {ti ei xi:TI} (ht:lookup τ ty=some ti) (hk:ti.k=.slice e) (he:lookup τ e=some ei) (hp:decide (0 < ei.size)=true) (hxi:lookup τ tx=some xi) (hxk:xi.k=.int .i64)
  (h0:0 < n) (hb:n*ei.bytes≤140737488355328) (hlen:n≤140737488355328)
  (h:∀(cap':Nat) (l':List AV),n≤cap'→l'.length=cap'*ei.size→DW P ops cls Q ds ls ((d,.osl M.next 0 n cap' ei.size)::t) (M.push (.cells l'))):DW P ops cls Q ds (i::ls) t M:=by
 refine DW_run hi hw ?_
 refine SC.of_G hc (by intro c hc;rw[ho] at hc;cases hc) ?_
 ·refine OpG.mono (opG_append_zeros hτ ⟨ht,hk,he,of_decide_eq_true hp⟩ hxi hxk ho hS hX h0 hb hlen) ?_
  rintro u M' ⟨cap',l',h1,h2,rfl,rfl⟩
  have:=h cap' l' h1 h2
  simpa [AF.put,hd] using this
theorem DW_cap (hτ:TabOK P τ) {d:Nat} (hi:ops[i]? =some o) (hw:wantedA ops ⟨t,ds⟩ o=some true) (hd:o.dst=some d) {x:Operand} {ts:TypeId} (ho:o.op=.call {callee:=.builtin .cap,args:=#[x],argTypes:=#[ts]}) {sz:Nat} {xs:List AV} (hx:AF.ev ⟨t,ds⟩ x=.sl sz xs .full) {e:TypeId} {ti:TI} (ht:lookup τ ts=some ti) (hk:ti.k=.slice e)
  (h:DW P ops cls Q ds ls ((d,.int .i64 xs.length)::t) M):DW P ops cls Q ds (i::ls) t M:=
 DW_ofP hi hw hd (by rw[ho];exact opP_cap hτ ht hk hx) h
end
end Go.Ab
namespace Go.Ab
open Go.RowKit
theorem opP_slice00 {P:Program} {τ:Tab} (hτ:TabOK P τ) {t e:TypeId} {ti ei:TI} (ht:lookup τ t=some ti) (hk:ti.k=.slice e) (he:lookup τ e=some ei) {X:Operand} {H:Option Operand} {ty:TypeId} {ρ:Operand→AV} {sz:Nat}
  (hX:ρ X=.sl sz [] .full) (hH:bnd (H.map ρ) 0=some 0):OpP P (.slice t X none H none) ty ρ (.sl sz [] .full):=by
 refine opP_of_same ?_
 intro μ F w ρc o ho hty hr
 have hx:=hr X (by simp[Op.operands])
 rw[hX] at hx
 have hx0:=hx
 generalize hv:ρc X=v at hx hx0
 obtain⟨A,cap,ad,vals,rfl,hs,hcap,hA,hone,hcell,hrep,htag⟩:=hx.sl_inv
 have hc0:cap=0:=htag
 subst hc0
 obtain⟨ft,dt,zt,HT⟩:=TI.spec hτ ht
 obtain⟨fe,de,ze,HE⟩:=TI.spec hτ he
 have hf:=HT.fits
 rw[hk] at hf
 have hdd:dt=.slice e:=by
  cases dt<;>simp[TK.fits] at hf
  rw[hf]
 subst hdd
 have hb:=run_bounds (P:=P) (w:=w) (isS:=true) (n:=0) (m:=0) (L:=none) (.inl ⟨rfl,rfl⟩) (bnd_spec hH fun x hx=>hr x (by simp[Op.operands,hx])) (Int.le_refl 0) (Int.le_refl 0) (by omega)
 refine⟨.slice A 0 0,?_,hx0⟩
 simp only[execOp,ho,hv,Instr.sliceAt,Sem.run_bind,run_underlying HT.und,Result.andThen_ok,Instr.slice,Option.map_none,List.length_nil,hb,run_sizeOf w HE.info,HE.cellsOf,Sem.run_pure]
 simp
section
variable {P:Program} {τ:Tab} {ops:Array Oper} {cls:Nat→Cls} {Q:AX→AF→Mem→Prop} {ds:List ADef} {ls:List Nat} {i:Nat} {o:Oper} {t:List (Nat×AV)} {M:Mem}
theorem DW_slice00 (hτ:TabOK P τ) {d:Nat} (hi:ops[i]? =some o) (hw:wantedA ops ⟨t,ds⟩ o=some true) (hd:o.dst=some d) {ty e:TypeId} {X:Operand} {H:Option Operand} (ho:o.op=.slice ty X none H none) {sz:Nat}
  (hX:AF.ev ⟨t,ds⟩ X=.sl sz [] .full) {ti ei:TI} (ht:lookup τ ty=some ti) (hk:ti.k=.slice e) (he:lookup τ e=some ei) (hH:bnd (H.map (AF.ev ⟨t,ds⟩)) 0=some 0)
  (h:DW P ops cls Q ds ls ((d,.sl sz [] .full)::t) M):DW P ops cls Q ds (i::ls) t M:=
 DW_ofP hi hw hd (by rw[ho];exact opP_slice00 hτ ht hk he hX hH) h
end
end Go.Ab
namespace Go.Ab
open Go.RowKit
def rowG (xs:List AV) (cap:Nat):List AV:=xs++List.replicate (cap - xs.length) .top
theorem rowG_len {xs:List AV} {cap:Nat} (h:xs.length≤cap):(rowG xs cap).length=cap:=by
 simp[rowG];omega
theorem rowG_take (xs:List AV) (cap:Nat):(rowG xs cap).take xs.length=xs:=by simp[rowG]
theorem rowG_get {k id:Nat} {xs cells:List AV} {n cap:Nat} (hn:n≤xs.length) (hc:cells.take xs.length=xs) (hlen:cells.length=cap) (hl:xs.length≤cap) (hcl:∀x,x∈xs→Closed x):
  (rowG (xs.take n) cap).length=cells.length∧∀(j:Nat) (x y:AV),cells[j]? =some x→(rowG (xs.take n) cap)[j]? =some y→SubK k id x y:=by
 have hl':(xs.take n).length=n:=by simp;omega
 refine⟨by rw[rowG_len (by omega),hlen],fun j x y hx hy=>?_⟩
 by_cases hj:j < n
 ·have h1:(cells.take xs.length)[j]? =some x:=by
   rw[List.getElem?_take,if_pos (by omega)]
   exact hx
  rw[hc] at h1
  simp only[rowG] at hy
  rw[List.getElem?_append_left (by omega),List.getElem?_take,if_pos hj,h1] at hy
  cases hy
  exact SubK.of_closed (hcl _ (List.mem_of_getElem? h1))
 ·simp only[rowG] at hy
  rw[List.getElem?_append_right (by omega)] at hy
  have:=List.mem_of_getElem? hy
  rw[List.mem_replicate] at this
  rw[this.2]
  exact SubK.top
theorem rowG_all {k id:Nat} {xs cells:List AV} {cap:Nat} (hc:cells.take xs.length=xs) (hlen:cells.length=cap) (hl:xs.length≤cap) (hcl:∀x,x∈xs→Closed x):
  (rowG xs cap).length=cells.length∧∀(j:Nat) (x y:AV),cells[j]? =some x→(rowG xs cap)[j]? =some y→SubK k id x y:=by
 have:=rowG_get (k:=k) (id:=id) (Nat.le_refl _) hc hlen hl hcl
 rwa [List.take_length] at this
theorem Sub.iface {t:TypeId} {x y:AV} (h:Sub x y):Sub (.iface t x) (.iface t y):=by
 intro μ F w v hr
 cases hr with
 |iface _ _ u hu=>exact .iface _ _ _ (h _ _ _ _ hu)
theorem Sub.nil {sz sz':Nat}:Sub (.sl sz [] .full) (.sl sz' [] .none):=fun μ F w v h=>Sub.empty (.inl rfl) μ F w v (rep_untag h)
theorem Sub.trans {x y z:AV} (h1:Sub x y) (h2:Sub y z):Sub x z:=fun μ F w v h=>h2 _ _ _ _ (h1 _ _ _ _ h)
section
variable {P:Program} {τ:Tab} {ops:Array Oper} {cls:Nat→Cls} {Q:AX→AF→Mem→Prop} {ds:List ADef} {ls:List Nat} {i:Nat} {o:Oper} {t:List (Nat×AV)} {M:Mem}
end
end Go.Ab
namespace Go.Ab
open Go.RowKit
def stepW (r:Option Nat) (P:Program) (n:Nat) (c:Code) (Q:AX→AF→Mem→Prop) (f:AF) (M:Mem):Option Prop:=
 match c with
 |.seq c d=>some (W r P n c (thenX (fun f M=>W r P n d Q f M) Q) f M)
 |.region _ ops false=>(match f with
  |⟨t,ds⟩=>match (ops.toList.all fun o=>dstOK ds o n) with
   |true=>some (DW P ops (fun _=>.Y) Q ds (List.range' 0 ops.toList.length) t M)
   |false=>none)
 |.block id c=>some (W r P n c (blockX id Q) f M)
 |.skip=>some (Q .normal f M)
 |.exit id=>some (Q (.exit id) f M)
 |.ret=>some (Q .ret f M)
 |.scope c=>(match r with|none=>some (W none P n c Q f M)|some _=>none)
 |.label _=>some (Q .normal f M)
 |.cond c d e=>(match f.ev c with
  |.bool true=>some (W r P n d Q f M)
  |.bool false=>some (W r P n e Q f M)
  |_=>none)
 |_=>none
theorem W_A {r:Option Nat} {P:Program} {n:Nat} {c:Code} {Q:AX→AF→Mem→Prop} {f:AF} {M:Mem} {G:Prop} (hs:stepW r P n c Q f M=some G) (h:G):W r P n c Q f M:=by
 unfold stepW at hs
 split at hs<;>try (cases hs;done)
 ·cases hs;exact W_seq h
 ·rename_i id ops
  obtain⟨t,ds⟩:=f
  simp only at hs
  split at hs
  ·rename_i hd
   cases hs
   exact W_text hd (fun _ _ _ h=>h) h
  ·cases hs
 ·cases hs;exact W_block h
 ·cases hs;exact W_skip h
 ·cases hs;exact W_exit h
 ·cases hs;exact W_ret h
 ·split at hs
  ·cases hs;exact W_scope h
  ·cases hs
 ·cases hs;exact W_label h
 ·split at hs
  ·rename_i hc;cases hs;exact W_true hc h
  ·rename_i hc;cases hs;exact W_false hc h
  ·cases hs
section
variable {P:Program} {τ:Tab} {ops:Array Oper} {cls:Nat→Cls} {Q:AX→AF→Mem→Prop} {ds:List ADef} {ls:List Nat} {i:Nat} {o:Oper} {t:List (Nat×AV)} {M:Mem}
def appOp (τ:Tab) (ds:List ADef) (t:List (Nat×AV)) (M:Mem) (d:Nat) (ty tx:TypeId) (s y:Operand):Option (List (Nat×AV)×Mem×Nat×Nat×Nat×Nat):=
 match AF.ev ⟨t,ds⟩ s with
 |.sl sz xs (.tok id g)=>
  match M.get id,lookup τ ty,lookup τ tx with
  |some (.spare g'),some ti,some xi=>
   match ti.k with
   |.slice e=>
    match lookup τ e with
    |some ei=>
     match decide (0 < ei.size),srcFits xi.k (AF.ev ⟨t,ds⟩ y),decide (sz=ei.size),srcOf ei.size (AF.ev ⟨t,ds⟩ y) with
     |true,true,true,some ys=>some ((d,.sl ei.size (xs++ys) (.tok id (g+1)))::t,M.set id (.spare (g+1)),(xs.length+ys.length)*ei.bytes,xs.length+ys.length,g',g)
     |_,_,_,_=>none
    |none=>none
   |_=>none
  |_,_,_=>none
 |_=>none
def stepApp (τ:Tab) (ops:Array Oper) (cls:Nat→Cls) (ds:List ADef) (i:Nat) (t:List (Nat×AV)) (M:Mem):Option (List (Nat×AV)×Mem×Nat×Nat×Nat×Nat):=
 match ops[i]? with
 |some o=>
  match wantedA ops ⟨t,ds⟩ o,o.dst,isE (cls i),o.op with
  |some true,some d,true,.call {callee:=.builtin .append,args:=⟨[s,y]⟩,argTypes:=⟨[ty,tx]⟩}=>appOp τ ds t M d ty tx s y
  |_,_,_,_=>none
 |none=>none
theorem DW_app (hτ:TabOK P τ) {t':List (Nat×AV)} {M':Mem} {nb nl g1 g2:Nat} (hs:stepApp τ ops cls ds i t M=some (t',M',nb,nl,g1,g2)) (hgg:g1=g2) (hb:nb≤140737488355328) (hl:nl≤140737488355328) (h:DW P ops cls Q ds ls t' M'):DW P ops cls Q ds (i::ls) t M:=by
 unfold stepApp at hs
 split at hs
 ·rename_i o hi
  split at hs
  ·rename_i d s y ty tx hw hd hc ho
   unfold appOp at hs
   split at hs
   ·rename_i sz xs id g hS
    split at hs
    ·rename_i g' ti xi hM ht hxi
     split at hs
     ·rename_i e hk
      split at hs
      ·rename_i ei he
       split at hs
       ·rename_i ys hp hf hsz hX
        cases hs
        subst hgg
        exact DW_append_own hτ hi hw hd ho hS hM ht hk he hp hxi hf hX hc (of_decide_eq_true hsz) hb hl h
       ·cases hs
      ·cases hs
     ·cases hs
    ·cases hs
   ·cases hs
  ·cases hs
 ·cases hs
def litOp (τ:Tab) (ds:List ADef) (t:List (Nat×AV)) (d:Nat) (ty:TypeId) (n:Nat) (ps:Array (Nat×Operand)):Option (List (Nat×AV)):=
 match lookup τ ty with
 |some ti=>
  match ti.k with
  |.slice e=>
   match lookup τ e with
   |some ei=>
    match decide (0 < ei.size),decide (ps.size=n),idxOK ps.toList 0,sizedAll ei.size (ps.toList.map fun p=>AF.ev ⟨t,ds⟩ p.2),decide (n*ei.size≤16777216),forceL (ps.toList.map fun p=>AF.ev ⟨t,ds⟩ p.2) with
    |true,true,true,true,true,some ys=>some ((d,.sl ei.size ys .full)::t)
    |_,_,_,_,_,_=>none
   |none=>none
  |_=>none
 |none=>none
def stepLit (τ:Tab) (ops:Array Oper) (ds:List ADef) (i:Nat) (t:List (Nat×AV)):Option (List (Nat×AV)):=
 match ops[i]? with
 |some o=>
  match wantedA ops ⟨t,ds⟩ o,o.dst,o.op with
  |some true,some d,.buildSlice ty n ps=>litOp τ ds t d ty n ps
  |_,_,_=>none
 |none=>none
theorem DW_row (hτ:TabOK P τ) {t':List (Nat×AV)} (hs:stepLit τ ops ds i t=some t') (h:DW P ops cls Q ds ls t' M):DW P ops cls Q ds (i::ls) t M:=by
 unfold stepLit at hs
 split at hs
 ·rename_i o hi
  split at hs
  ·rename_i d ty n ps hw hd ho
   unfold litOp at hs
   split at hs
   ·rename_i ti ht
    split at hs
    ·rename_i e hk
     split at hs
     ·rename_i ei he
      split at hs
      ·rename_i ys hp hn hidx hsz hbig hys
       cases hs
       exact DW_lits hτ hi hw hd ho ht hk he hp (of_decide_eq_true hn) hidx hsz hbig hys h
      ·cases hs
     ·cases hs
    ·cases hs
   ·cases hs
  ·cases hs
 ·cases hs
def ixOp (τ:Tab) (ds:List ADef) (t:List (Nat×AV)) (ty:TypeId) (X I:Operand):Option (List AV×Int):=
 match AF.ev ⟨t,ds⟩ X,AF.ev ⟨t,ds⟩ I,lookup τ ty with
 |.sl sz xs _,.int _ n,some ti=>
  match ti.k with
  |.slice e=>
   match lookup τ e with
   |some ei=>(match decide (sz=ei.size) with|true=>some (xs,n)|false=>none)
   |none=>none
  |_=>none
 |_,_,_=>none
def stepIx (τ:Tab) (ops:Array Oper) (ds:List ADef) (i:Nat) (t:List (Nat×AV)):Option (Nat×List AV×Int):=
 match ops[i]? with
 |some o=>
  match wantedA ops ⟨t,ds⟩ o,o.dst,o.op with
  |some true,some d,.indexAddr ty X I=>(match ixOp τ ds t ty X I with|some (xs,n)=>some (d,xs,n)|none=>none)
  |_,_,_=>none
 |none=>none
theorem DW_ix (hτ:TabOK P τ) {d:Nat} {xs:List AV} {n:Int} {x:AV} (hs:stepIx τ ops ds i t=some (d,xs,n)) (hx:0≤n∧xs[n.toNat]? =some x) (h:DW P ops cls Q ds ls ((d,.ref x.cells)::t) M):DW P ops cls Q ds (i::ls) t M:=by
 unfold stepIx at hs
 split at hs
 ·rename_i o hi
  split at hs
  ·rename_i d' ty X I hw hd ho
   split at hs
   ·rename_i xs' n' hix
    cases hs
    unfold ixOp at hix
    split at hix
    ·rename_i sz xs2 tag k n2 ti hX hI ht
     split at hix
     ·rename_i e hk
      split at hix
      ·rename_i ei he
       split at hix
       ·rename_i hsz
        cases hix
        exact DW_index hτ hi hw hd ho hX hI ht hk he (of_decide_eq_true hsz) hx.1 hx.2 h
       ·cases hix
      ·cases hix
     ·cases hix
    ·cases hix
   ·cases hs
  ·cases hs
 ·cases hs
theorem ixN {α:Type} {f:α→AV} {l:List α} {i:Nat} {y:α} (h:l[i]? =some y):0≤(i:Int)∧(l.map f)[((i:Int)).toNat]? =some (f y):=⟨Int.natCast_nonneg _,map_get h⟩
theorem ixZ {α:Type} {f:α→AV} {l:List α} {n:Int} {i:Nat} {y:α} (hn:n=i) (h:l[i]? =some y):0≤n∧(l.map f)[n.toNat]? =some (f y):=⟨by omega,map_getZ hn h⟩
def stepBy (τ:Tab) (ops:Array Oper) (ds:List ADef) (i:Nat) (t:List (Nat×AV)):Option (Nat×List UInt8×Int):=
 match ops[i]? with
 |some o=>
  match wantedA ops ⟨t,ds⟩ o,o.dst,o.op with
  |some true,some d,.index ty X I=>
   (match AF.ev ⟨t,ds⟩ X,AF.ev ⟨t,ds⟩ I,lookup τ ty with
   |.str s,.int _ n,some ti=>(match ti.k with|.str=>some (d,s,n)|_=>none)
   |_,_,_=>none)
  |_,_,_=>none
 |none=>none
theorem DW_by (hτ:TabOK P τ) {d:Nat} {s:List UInt8} {n:Int} {c:UInt8} (hs:stepBy τ ops ds i t=some (d,s,n)) (hx:0≤n∧s[n.toNat]? =some c) (h:DW P ops cls Q ds ls ((d,.int .u8 c.toNat)::t) M):DW P ops cls Q ds (i::ls) t M:=by
 unfold stepBy at hs
 split at hs
 ·rename_i o hi
  split at hs
  ·rename_i d' ty X I hw hd ho
   split at hs
   ·rename_i s' k n' ti hX hI ht
    split at hs
    ·rename_i hk
     cases hs
     exact DW_byte hτ hi hw hd ho hX hI ht hk hx.1 hx.2 h
    ·cases hs
   ·cases hs
  ·cases hs
 ·cases hs
theorem byN {s:List UInt8} {i:Nat} {c:UInt8} (h:s[i]? =some c):0≤(i:Int)∧s[((i:Int)).toNat]? =some c:=⟨Int.natCast_nonneg _,h⟩
def stepV (τ:Tab) (es:List TypeId) (ops:Array Oper) (ds:List ADef) (i:Nat) (t:List (Nat×AV)):Option (Nat×AV):=
 match ops[i]? with
 |some o=>(match wantedA ops ⟨t,ds⟩ o,o.dst,forceP (stepP3 τ es (AF.ev ⟨t,ds⟩) o.op) with
  |some true,some d,some x=>some (d,x)
  |_,_,_=>none)
 |none=>none
theorem stepV_spec {es:List TypeId} {d:Nat} {x:AV} (hs:stepV τ es ops ds i t=some (d,x)):∃o,ops[i]? =some o∧wantedA ops ⟨t,ds⟩ o=some true∧o.dst=some d∧forceP (stepP3 τ es (AF.ev ⟨t,ds⟩) o.op)=some x:=by
 unfold stepV at hs
 split at hs
 ·rename_i o hi
  split at hs
  ·rename_i d' x' hw hd hx
   cases hs
   exact⟨o,hi,hw,hd,hx⟩
  ·cases hs
 ·cases hs
theorem DW_VB {es:List TypeId} (hT:TabOK P τ∧EqTab P es) {d:Nat} {x y:Bool} (hs:stepV τ es ops ds i t=some (d,.bool x)) (hx:x=y) (h:DW P ops cls Q ds ls ((d,.bool y)::t) M):DW P ops cls Q ds (i::ls) t M:=by
 obtain⟨o,hi,hw,hd,ho⟩:=stepV_spec hs
 exact DW_V hT hi hw hd ho (congrArg AV.bool hx) h
theorem DW_VI {es:List TypeId} (hT:TabOK P τ∧EqTab P es) {d:Nat} {k:IntKind} {x y:Int} (hs:stepV τ es ops ds i t=some (d,.int k x)) (hx:x=y) (h:DW P ops cls Q ds ls ((d,.int k y)::t) M):DW P ops cls Q ds (i::ls) t M:=by
 obtain⟨o,hi,hw,hd,ho⟩:=stepV_spec hs
 exact DW_V hT hi hw hd ho (congrArg (AV.int k) hx) h
def stepC (ops:Array Oper) (ds:List ADef) (i:Nat) (t:List (Nat×AV)):Option (Option Nat×FuncId×List AV):=
 match ops[i]? with
 |some o=>(match wantedA ops ⟨t,ds⟩ o,o.op with
  |some true,.call {callee:=.value y,args:=ags,argTypes:=_}=>(match AF.ev ⟨t,ds⟩ y with
   |.fn (.func g) fi ca=>some (o.dst,g,fi++ags.toList.map (AF.ev ⟨t,ds⟩)++ca)
   |_=>none)
  |_,_=>none)
 |none=>none
theorem stepC_spec {dst:Option Nat} {g:FuncId} {args:List AV} (hs:stepC ops ds i t=some (dst,g,args)):∃o y ags ts fi ca,ops[i]? =some o∧wantedA ops ⟨t,ds⟩ o=some true∧o.dst=dst∧o.op=.call {callee:=.value y,args:=ags,argTypes:=ts}∧AF.ev ⟨t,ds⟩ y=.fn (.func g) fi ca∧args=fi++ags.toList.map (AF.ev ⟨t,ds⟩)++ca:=by
 unfold stepC at hs
 split at hs
 ·rename_i o hi
  split at hs
  ·rename_i y ags ts hw ho
   split at hs
   ·rename_i g' fi ca hx
    cases hs
    exact⟨o,y,ags,ts,fi,ca,hi,hw,rfl,ho,hx,rfl⟩
   ·cases hs
  ·cases hs
 ·cases hs
theorem DW_C {d:Nat} {g:FuncId} {args:List AV} {x:AV} (hs:stepC ops ds i t=some (some d,g,args)) (hc:APure P g args x) (h:DW P ops cls Q ds ls ((d,x)::t) M):DW P ops cls Q ds (i::ls) t M:=by
 obtain⟨o,y,ags,ts,fi,ca,hi,hw,hd,ho,hx,rfl⟩:=stepC_spec hs
 exact DW_pure hi hw hd ho hx hc h
theorem DW_CM {d:Nat} {g:FuncId} {args:List AV} {R:AEnd→Mem→Prop} (hs:stepC ops ds i t=some (some d,g,args)) (hc:isE (cls i)=true) (hcall:ACalls P g args M R)
  (h1:∀u M',R (.ret u) M'→DW P ops cls Q ds ls ((d,u)::t) M') (h2:∀u M',R (.pan u) M'→Q (.panic u) ⟨keepT ds,ds⟩ M'):DW P ops cls Q ds (i::ls) t M:=by
 obtain⟨o,y,ags,ts,fi,ca,hi,hw,hd,ho,hx,rfl⟩:=stepC_spec hs
 exact DW_call hi hw hd ho hx hc hcall h1 h2
def stepBx (τ:Tab) (ops:Array Oper) (cls:Nat→Cls) (ds:List ADef) (i:Nat) (t:List (Nat×AV)) (M:Mem) (d:Nat):Option (List (Nat×AV)×Mem):=
 match ops[i]? with
 |some o=>(match wantedA ops ⟨t,ds⟩ o,decide (o.dst=some d),isE (cls i),o.op with
  |some true,true,true,.box ty x=>(match forceE (stepE τ (AF.ev ⟨t,ds⟩) M (.box ty x)) with|some (y,N)=>some ((d,y)::t,N)|none=>none)
  |_,_,_,_=>none)
 |none=>none
theorem DW_box (d:Nat) (hτ:TabOK P τ) {t':List (Nat×AV)} {M':Mem} (hs:stepBx τ ops cls ds i t M d=some (t',M')) (h:DW P ops cls Q ds ls t' M'):DW P ops cls Q ds (i::ls) t M:=by
 unfold stepBx at hs
 split at hs
 ·rename_i o hi
  split at hs
  ·rename_i ty x hw hd hc ho
   split at hs
   ·rename_i y N hy
    cases hs
    exact DW_E hτ hi hw (of_decide_eq_true hd) (by rw[ho];exact hy) hc h
   ·cases hs
  ·cases hs
 ·cases hs
def appOp0 (τ:Tab) (ds:List ADef) (t:List (Nat×AV)) (M:Mem) (d:Nat) (ty tx:TypeId) (s y:Operand):Option (List (Nat×AV)×Mem×Nat×Nat):=
 match AF.ev ⟨t,ds⟩ s with
 |.sl sz xs .full=>
  match lookup τ ty,lookup τ tx with
  |some ti,some xi=>
   match ti.k with
   |.slice e=>
    match lookup τ e with
    |some ei=>
     match decide (0 < ei.size),srcFits xi.k (AF.ev ⟨t,ds⟩ y),(decide (sz=ei.size)||xs.isEmpty),srcOf ei.size (AF.ev ⟨t,ds⟩ y) with
     |true,true,true,some ys=>some ((d,.sl ei.size (xs++ys) (.tok M.next 0))::t,M.push (.spare 0),(xs.length+ys.length)*ei.bytes,xs.length+ys.length)
     |_,_,_,_=>none
    |none=>none
   |_=>none
  |_,_=>none
 |_=>none
def stepApp0 (τ:Tab) (ops:Array Oper) (cls:Nat→Cls) (ds:List ADef) (i:Nat) (t:List (Nat×AV)) (M:Mem):Option (List (Nat×AV)×Mem×Nat×Nat):=
 match ops[i]? with
 |some o=>
  match wantedA ops ⟨t,ds⟩ o,o.dst,isE (cls i),o.op with
  |some true,some d,true,.call {callee:=.builtin .append,args:=⟨[s,y]⟩,argTypes:=⟨[ty,tx]⟩}=>appOp0 τ ds t M d ty tx s y
  |_,_,_,_=>none
 |none=>none
theorem DW_app0 (hτ:TabOK P τ) {t':List (Nat×AV)} {M':Mem} {nb nl:Nat} (hs:stepApp0 τ ops cls ds i t M=some (t',M',nb,nl)) (hb:nb≤140737488355328) (hl:nl≤140737488355328) (h:DW P ops cls Q ds ls t' M'):DW P ops cls Q ds (i::ls) t M:=by
 unfold stepApp0 at hs
 split at hs
 ·rename_i o hi
  split at hs
  ·rename_i d s y ty tx hw hd hc ho
   unfold appOp0 at hs
   split at hs
   ·rename_i sz xs hS
    split at hs
    ·rename_i ti xi ht hxi
     split at hs
     ·rename_i e hk
      split at hs
      ·rename_i ei he
       split at hs
       ·rename_i ys hp hf hsz hX
        cases hs
        have hsz':sz=ei.size∨xs=[]:=by
         rcases Bool.or_eq_true_iff.1 hsz with h|h
         ·exact .inl (of_decide_eq_true h)
         ·exact .inr (List.isEmpty_iff.1 h)
        exact DW_append hτ hi hw hd ho hS ht hk he hp hxi hf hX hc hsz' hb hl h
       ·cases hs
      ·cases hs
     ·cases hs
    ·cases hs
   ·cases hs
  ·cases hs
 ·cases hs
end
attribute [simp] closed_int closed_bool closed_str closed_nilptr closed_nilIface closed_nilFunc closed_nilmap closed_top
theorem closedL_nil:∀x,x∈([]:List AV)→Closed x:=by simp
end Go.Ab
namespace Go.Proofs.YtbcaejhhgkcgpaaGreatDoor
open Go.Ab
theorem eqOK:EqTab Tryz.prog eqs:=eqTab_of (by kernel_rfl)
theorem tabs:TabOK Tryz.prog tab∧EqTab Tryz.prog eqs:=⟨tabOK,eqOK⟩
theorem mixed:Tryz.prog.follows .mixedOrders=true:=by kernel_rfl
abbrev Bytes:=List UInt8
end Go.Proofs.YtbcaejhhgkcgpaaGreatDoor
namespace Go.Ab
open Go.RowKit
theorem closed1 {x:AV} (hx:Closed x):∀z,z∈[x]→Closed z:=by
 intro z hz
 simp only[List.mem_cons,List.not_mem_nil,or_false] at hz
 subst hz
 exact hx
theorem closed2 {x y:AV} (hx:Closed x) (hy:Closed y):∀z,z∈[x,y]→Closed z:=by
 intro z hz
 simp only[List.mem_cons,List.not_mem_nil,or_false] at hz
 rcases hz with rfl|rfl
 ·exact hx
 ·exact hy
theorem closed3 {x y u:AV} (hx:Closed x) (hy:Closed y) (hu:Closed u):∀z,z∈[x,y,u]→Closed z:=by
 intro z hz
 simp only[List.mem_cons,List.not_mem_nil,or_false] at hz
 rcases hz with rfl|rfl|rfl
 ·exact hx
 ·exact hy
 ·exact hu
theorem SubC.tup2 {k:Nat} {a b c d:AV} (h1:SubC k a c) (h2:SubC k b d):SubC k (.tup [a,b]) (.tup [c,d]):=by
 intro μ F w v hr
 obtain⟨r,rfl,hs,hv⟩:=hr.tup_inv
 refine .tup _ _ hs ?_
 intro i x u hx hu
 match i with
 |0=>simp at hx;subst hx;exact h1 μ F w u (hv 0 a u rfl hu)
 |1=>simp at hx;subst hx;exact h2 μ F w u (hv 1 b u rfl hu)
 |i+2=>simp at hx
theorem SubC.tup3 {k:Nat} {a b c a' b' c':AV} (h1:SubC k a a') (h2:SubC k b b') (h3:SubC k c c'):SubC k (.tup [a,b,c]) (.tup [a',b',c']):=by
 intro μ F w v hr
 obtain⟨r,rfl,hs,hv⟩:=hr.tup_inv
 refine .tup _ _ hs ?_
 intro i x u hx hu
 match i with
 |0=>simp at hx;subst hx;exact h1 μ F w u (hv 0 a u rfl hu)
 |1=>simp at hx;subst hx;exact h2 μ F w u (hv 1 b u rfl hu)
 |2=>simp at hx;subst hx;exact h3 μ F w u (hv 2 c u rfl hu)
 |i+3=>simp at hx
theorem Sub.tup2 {a b c d:AV} (h1:Sub a c) (h2:Sub b d):Sub (.tup [a,b]) (.tup [c,d]):=by
 intro μ F w v hr
 obtain⟨r,rfl,hs,hv⟩:=hr.tup_inv
 refine .tup _ _ hs ?_
 intro i x u hx hu
 match i with
 |0=>simp at hx;subst hx;exact h1 μ F w u (hv 0 a u rfl hu)
 |1=>simp at hx;subst hx;exact h2 μ F w u (hv 1 b u rfl hu)
 |i+2=>simp at hx
theorem closed_slmap {α:Type} {f:α→AV} {sz:Nat} {l:List α} (h:∀a,Closed (f a)) (hc:∀a,∀c,c∈(f a).cells→Closed c):Closed (.sl sz (l.map f) .none):=by
 refine closed_sl (.inl rfl) ?_ ?_
 ·intro x hx
  obtain⟨a,_,rfl⟩:=List.mem_map.1 hx
  exact h a
 ·intro x hx
  obtain⟨a,_,rfl⟩:=List.mem_map.1 hx
  exact hc a
theorem closed_strs {l:List (List UInt8)}:Closed (.sl 1 (l.map .str) .none):=
 closed_slmap (fun _=>closed_str) (fun a c hc=>by simp[AV.cells] at hc;subst hc;exact closed_str)
theorem SubC.untag {k sz:Nat} {xs:List AV} {t:Tag} (h:Closed (.sl sz xs .none)):SubC k (.sl sz xs t) (.sl sz xs .none):=SubC.pre Sub.untag (SubC.of_closed h)
theorem SubC.nil {k sz sz':Nat} {t:Tag}:SubC k (.sl sz [] t) (.sl sz' [] .none):=
 SubC.pre (y:=.sl sz' [] .none) (fun μ F w v h=>Sub.empty (.inl rfl) μ F w v (rep_untag h)) (SubC.of_closed (closed_sl (.inl rfl) (by simp) (by simp)))
theorem pure_sub {P:Program} {g:FuncId} {args:List AV} {y:AV} (ha:∀x,x∈args→Closed x) (hy:Closed y) (h:ACalls P g args ⟨0,[]⟩ (fun e _=>∃x,e=.ret x∧SubC 0 x y)):APure P g args y:=by
 refine apure_of ha hy ?_
 refine ACalls.mono (h.joint (R':=fun e _=>e=.ret y) ?_ ?_) (fun e M he=>he)
 ·rintro x M' ⟨z,e,hs⟩
  cases e
  exact⟨_,⟨0,[]⟩,rfl,Joint.cut (Nat.le_refl _) (Nat.zero_le _) rfl ⟨hs,trivial⟩ trivial⟩
 ·rintro x M' ⟨z,e,_⟩
  cases e
def tokM (g:Nat):Mem:=⟨1,[(0,.spare g)]⟩
theorem tokM_of {g:Nat} {M:Mem} (hn:1=M.next) (h1:M.get 0=some (.spare g)):(tokM g).le M:=Mem.le_cons h1 (Mem.le_nil hn)
end Go.Ab
namespace Go.Proofs.YtbcaejhhgkcgpaaGreatDoor
open Go.Ab
structure Ky where
 path:Bytes
 time:Int
deriving DecidableEq
def Ky.av (k:Ky):AV:=.agg [.str k.path,.int .i64 k.time]
end Go.Proofs.YtbcaejhhgkcgpaaGreatDoor
namespace Go.Proofs.YtbcaejhhgkcgpaaGreatDoor
open Go.Ab
abbrev bl (a b:Bytes):Bool:=Op.bytesLess a b
theorem bl_irrefl:∀a:Bytes,bl a a=false
 |[]=>rfl
 |b::l=>by
  have:=bl_irrefl l
  simp only[bl,Op.bytesLess] at this ⊢
  rw[this]
  simp
theorem bl_trans:∀{a b c:Bytes},bl a b=true→bl b c=true→bl a c=true
 |_,_,[],_,h=>by simp[bl,Op.bytesLess] at h
 |_,[],_::_,h,_=>by simp[bl,Op.bytesLess] at h
 |[],_::_,_::_,_,_=>rfl
 |x::a,y::b,z::c,h1,h2=>by
  simp only[bl,Op.bytesLess,Bool.or_eq_true,Bool.and_eq_true,decide_eq_true_eq,beq_iff_eq,UInt8.lt_iff_toNat_lt] at h1 h2 ⊢
  rcases h1 with h1|⟨rfl,h1⟩
  ·rcases h2 with h2|⟨rfl,h2⟩
   ·exact .inl (by omega)
   ·exact .inl h1
  ·rcases h2 with h2|⟨rfl,h2⟩
   ·exact .inl h2
   ·exact .inr ⟨rfl,bl_trans (a:=a) (b:=b) (c:=c) h1 h2⟩
theorem bl_total:∀{a b:Bytes},a≠b→bl a b=true∨bl b a=true
 |[],[],h=>absurd rfl h
 |[],_::_,_=>.inl rfl
 |_::_,[],_=>.inr rfl
 |x::a,y::b,h=>by
  simp only[bl,Op.bytesLess,Bool.or_eq_true,Bool.and_eq_true,decide_eq_true_eq,beq_iff_eq,UInt8.lt_iff_toNat_lt]
  by_cases e:x=y
  ·subst e
   rcases bl_total (a:=a) (b:=b) (fun e=>h (by rw[e])) with h1|h1
   ·exact .inl (.inr ⟨rfl,h1⟩)
   ·exact .inr (.inr ⟨rfl,h1⟩)
  ·have:x.toNat≠y.toNat:=fun he=>e (UInt8.toNat_inj.1 he)
   rcases Nat.lt_or_gt_of_ne this with h1|h1
   ·exact .inl (.inl h1)
   ·exact .inr (.inl h1)
end Go.Proofs.YtbcaejhhgkcgpaaGreatDoor
