/- Parts of the proof, one behind the other. No further condition. -/
import Derived.Test.YteliblifgdofgaaGreatDoorK07
import Derived.WideLaws
import Derived.Laws.Pointers
set_option linter.unusedVariables false
set_option linter.unusedSimpArgs false
set_option maxRecDepth 100000
set_option maxHeartbeats 8000000
namespace Go.Ab
open Go.RowKit
theorem zT {P:Program} {τ:Tab} (hτ:TabOK P τ) {t tx e:TypeId} {ti ei xi:TI} (hin:pY P τ t e ti ei) (hxi:aJ τ tx=some xi) {o:Oper} {s x:Operand}
  (ho:o.op=.call {callee:=.builtin .append,args:=#[s,x],argTypes:=#[t,tx]}) {ρ:Operand→AV} {M:aG} {sz:Nat} {xs ys:List AV} (hS:ρ s=.sl sz xs .full) (hsz:sz=ei.size∨xs=[]) (hne:ys≠[])
  (hf:eG xi.k (ρ x)=true) (hX:iI ei.size (ρ x)=some ys) (hb:(xs.length+ys.length)*ei.bytes≤140737488355328) (hlen:xs.length+ys.length≤140737488355328) {Kp:AV→aG→Prop}:
  jD P o ρ M (fun u M'=>GL M (b8 xs) xs.length ei.size ys M u M') Kp:=by
 intro μ F w a hg hr next Q' hnext _
 have hs:=hr s (by simp[ho,Op.operands,Call.operands])
 have hx:=hr x (by simp[ho,Op.operands,Call.operands])
 rw[hS] at hs
 obtain⟨A,cap,b,off,vals,hv,hsx0,hcap0,hA,hat,htag⟩:=hs.sl_flat
 have htag':cap=xs.length:=htag
 have hsx:∀y,y∈xs→y.cells.length=ei.size:=by
  rcases hsz with rfl|rfl
  ·exact hsx0
  ·simp
 obtain⟨hsy,news,hsrc,hnew⟩:=uC hτ hxi hf hX hx
 obtain⟨ft,dt,zt,HT⟩:=TI.spec hτ hin.tl
 obtain⟨fe,de,ze,HE⟩:=TI.spec hτ hin.el
 have hfi:=HT.fits
 rw[hin.tk] at hfi
 have hdd:dt=.slice e:=by
  cases dt<;>simp[TK.fits] at hfi
  rw[hfi]
 subst hdd
 have hlx:=bZ hsx
 have hly:=bZ hsy
 have hnl:=hsrc.newsLen
 have hsrc':Src P fe.size tx (a.eval x) ys.length news w:=by rw[HE.size];exact hsrc
 have hex:∀v w',(Builtin.append_ #[t,tx] o.type #[a.eval s,a.eval x]).run P w=.ok v w'→(execOp a.eval o).run P w=.ok (.value v) w':=by
  intro v w' h
  simp[execOp,ho,resolve,invoke,builtin,h]
 unfold Oper.wp
 have hyl:0 < ys.length:=List.length_pos_iff.2 hne
 have hgrow:cap < xs.length+ys.length:=by omega
 obtain⟨hv1,hv2⟩:=pC (vals:=vals) hat
 let olds:=(List.range (b8 xs).length).map vals
 have hol:olds.length=xs.length*ei.size:=by simp[olds,hlx]
 have hold:(Builtin.firstCells fe.size xs.length (.slice A xs.length cap)).run P w.drew=.ok olds.toArray w.drew:=by
  rw[HE.size]
  cases A with
  |none=>
   have h0:xs=[]:=by
    cases xs with
    |nil=>rfl
    |cons a r=>have:=hA (by simp);cases this
   subst h0
   simp[Builtin.firstCells,olds,b8]
  |some a=>
   by_cases h0:0 < xs.length
   ·have:=hA h0
    cases this
    exact run_firstCells_some w.drew ei.size xs.length _ _ _ olds hol (fun j u hu=>hv1 j u hu)
   ·have:xs=[]:=List.eq_nil_of_length_eq_zero (by omega)
    subst this
    simp[Builtin.firstCells,loadCells,loadCellsFrom,olds,b8]
 have hfit:Builtin.nextslicecap (xs.length+ys.length) cap*fe.bytes≤281474976710656:=by
  rw[HE.bytes]
  exact growslice_fits hgrow hb
 have hrun:=run_append_grow_src (P:=P) w t tx o.type e fe ze HT.und HE.info HE.zero A xs.length cap olds hold (a.eval x) ys.length news hsrc' hgrow (by omega) hfit
 have hge:=grownCap_ge w (xs.length+ys.length) cap e
 generalize hcap:grownCap w (xs.length+ys.length) cap e=cap' at hrun hge
 let c':Array Value:=(olds++news).toArray++Builtin.zeroCells ze.cells (cap' - (xs.length+ys.length))
 let w':World:=w.drew.alloc (.cells c' e)
 have hzs:ze.cells.size=ei.size:=by
  have:=(bV HE.cells).1
  simp only[Array.length_toList] at this
  rw[this,HE.len]
 have hc's:c'.size=cap'*ei.size:=by
  simp only[c',Array.size_append,List.size_toArray,List.length_append,hol,hnl,size_zeroCells,hzs,←Nat.add_mul]
  rw[Nat.add_sub_cancel' hge]
 have hheap:w'.heap[w.heap.size]? =some (.cells c' e (0,0)):=heap_alloc_new w.drew _
 have hbelow:Below w.heap.size w w':=⟨rfl,rfl,rfl,by simp[w',World.alloc],fun k hk=>heap_alloc_old w.drew _ hk⟩
 let l':List AV:=b8 xs++b8 ys++List.replicate ((cap' - (xs.length+ys.length))*ei.size) .top
 have hlt:(b8 xs).length=xs.length*ei.size:=hlx
 have hl':l'.length=cap'*ei.size:=by
  simp only[l',List.length_append,List.length_replicate,hlt,hly,←Nat.add_mul]
  rw[Nat.add_sub_cancel' hge]
 obtain⟨hev,hG⟩:=j9 hg hbelow (l:=l') (c:=c') (ty:=e) (b:=w.heap.size) (Nat.le_refl _) hheap (by rw[hc's,hl']) (by
   intro i v hi
   simp only[c'] at hi
   by_cases h1:i < (olds++news).length
   ·rw[Array.getElem?_append_left (by simpa using h1)] at hi
    simp only[List.getElem?_toArray] at hi
    rcases List.mem_append.1 (List.mem_of_getElem? hi) with h|h
    ·exact hv2 _ h
    ·exact hsrc.one _ h
   ·rw[Array.getElem?_append_right (by simpa using h1)] at hi
    exact j0 (z:=ze.cells) (fun u hu=>by
     obtain⟨j,hj⟩:=List.getElem?_of_mem (Array.mem_toList_iff.2 hu)
     have hjl:j < ei.zero.length:=by
      rw[HE.len,←hzs,←Array.length_toList]
      exact (List.getElem?_eq_some_iff.1 hj).1
     obtain⟨rfl,hp⟩:=(bV HE.cells).2 j u _ (by simpa using hj) (List.getElem?_eq_getElem hjl)
     exact oQ hp) (by rw[hzs];exact hin.pos) _ v (Array.mem_of_getElem? hi)) (by
   intro i q v hq hi
   simp only[l'] at hq
   simp only[c'] at hi
   by_cases h1:i < xs.length*ei.size
   ·rw[List.append_assoc,List.getElem?_append_left (by rw[hlt];exact h1)] at hq
    rw[Array.getElem?_append_left (by simp only[List.size_toArray,List.length_append];omega)] at hi
    simp only[List.getElem?_toArray] at hi
    rw[List.getElem?_append_left (by rw[hol];exact h1)] at hi
    simp only[olds,List.getElem?_map,List.getElem?_range (show i < (b8 xs).length by rw[hlt];exact h1),Option.map_some,Option.some.injEq] at hi
    rw[←hi]
    exact (hat i q hq).rep
   ·by_cases h2:i < xs.length*ei.size+(b8 ys).length
    ·rw[List.append_assoc,List.getElem?_append_right (by omega),hlt,List.getElem?_append_left (by omega)] at hq
     rw[Array.getElem?_append_left (by simp only[List.size_toArray,List.length_append];omega)] at hi
     simp only[List.getElem?_toArray] at hi
     rw[List.getElem?_append_right (by omega),hol] at hi
     exact hnew _ q v hq hi
    ·rw[List.getElem?_append_right (by simp only[List.length_append];omega)] at hq
     have:=List.mem_of_getElem? hq
     rw[List.mem_replicate] at this
     rw[this.2]
     exact .top _)
 rw[hv] at hex
 rw[hex _ _ hrun]
 refine hnext _ _ _ _ _ hev hG (kS (b:=w.heap.size) (by simp[Mu.put])) ⟨cap',l',hge,hl',?_,rfl,rfl⟩
 simp only[l']
 rw[List.take_append_of_le_length (by rw[List.length_append,hlt,hly,←Nat.add_mul];exact Nat.le_refl _)]
 apply List.take_of_length_le
 rw[List.length_append,hlt,hly,←Nat.add_mul]
 exact Nat.le_refl _
theorem KF {P:Program} {τ:Tab} (hτ:TabOK P τ) {t e:TypeId} {ti ei:TI} (ht:aJ τ t=some ti) (hk:ti.k=.slice e) (he:aJ τ e=some ei) {X:Operand} {H:Option Operand} {ty:TypeId} {ρ:Operand→AV} {M:aG} {id n cap sz:Nat} {l:List AV} {h:Int}
  (hX:ρ X=.osl id 0 n cap sz) (hM:M.get id=some (.cells l)) (hH:rK (H.map ρ) n=some h) (h0:0≤h) (h2:h≤n) (hnc:n≤cap):wR P (.slice t X none H none) ty ρ M (.osl id 0 h.toNat cap sz):=by
 intro μ F w ρc o hg ho hty hr
 have hx:=hr X (by simp[Op.operands])
 rw[hX] at hx
 obtain⟨b,hb,hv⟩:=eK hg hM hx
 obtain⟨ft,dt,zt,HT⟩:=TI.spec hτ ht
 obtain⟨fe,de,ze,HE⟩:=TI.spec hτ he
 have hf:=HT.fits
 rw[hk] at hf
 have hdd:dt=.slice e:=by
  cases dt<;>simp[TK.fits] at hf
  rw[hf]
 subst hdd
 have hbd:=kO (P:=P) (w:=w) (isS:=true) (n:=n) (m:=cap) (L:=none) (.inl ⟨rfl,rfl⟩) (iD hH fun x hx=>hr x (by simp[Op.operands,hx])) (Int.le_refl 0) h0 (by omega)
 obtain⟨hn,rfl⟩:=Int.eq_ofNat_of_zero_le h0
 simp only[Int.toNat_natCast] at hbd ⊢
 refine⟨.slice (some ⟨b,0,none⟩) hn cap,w,?_,Below.refl _ _,kS hb⟩
 simp only[execOp,ho,hv,Instr.sliceAt,Sem.run_bind,run_underlying HT.und,Result.andThen_ok,Instr.slice,Option.map_none,hbd,run_sizeOf w HE.info,HE.cellsOf,Sem.run_pure]
 simp[Addr.add_lit]
section
variable {P:Program} {τ:Tab} {ops:Array Oper} {cls:Nat→fQ} {Q:AX→AF→aG→Prop} {ds:List bJ} {ls:List Nat} {i:Nat} {o:Oper} {t:List (Nat×AV)} {M:aG}
theorem p7 (hτ:TabOK P τ) {d:Nat} (hi:ops[i]? =some o) (hw:aT ops ⟨t,ds⟩ o=some true) (hd:o.dst=some d) (hc:pG (cls i)=true) {x:Operand} {ts e:TypeId} (ho:o.op=.call {callee:=.builtin .len,args:=#[x],argTypes:=#[ts]})
  {id off n cap sz:Nat} {l:List AV} (hx:AF.ev ⟨t,ds⟩ x=.osl id off n cap sz) (hM:M.get id=some (.cells l)) {ti:TI} (ht:aJ τ ts=some ti) (hk:ti.k=.slice e) (h:DW P ops cls Q ds ls ((d,.int .i64 n)::t) M):DW P ops cls Q ds (i::ls) t M:=
 jY hi hw hd hc (by rw[ho];exact YN hτ ht hk hx hM) h
theorem BS (hτ:TabOK P τ) {d:Nat} (hi:ops[i]? =some o) (hw:aT ops ⟨t,ds⟩ o=some true) (hd:o.dst=some d) (hc:pG (cls i)=true) {ty e:TypeId} {X:Operand} {H:Option Operand} (ho:o.op=.slice ty X none H none)
  {id n cap sz:Nat} {l:List AV} (hX:AF.ev ⟨t,ds⟩ X=.osl id 0 n cap sz) (hM:M.get id=some (.cells l)) {ti ei:TI} (ht:aJ τ ty=some ti) (hk:ti.k=.slice e) (he:aJ τ e=some ei) {h:Int} (hH:rK (H.map (AF.ev ⟨t,ds⟩)) n=some h) (h0:0≤h) (h2:h≤n) (hnc:n≤cap)
  (hh:DW P ops cls Q ds ls ((d,.osl id 0 h.toNat cap sz)::t) M):DW P ops cls Q ds (i::ls) t M:=
 jY hi hw hd hc (by rw[ho];exact KF hτ ht hk he hX hM hH h0 h2 hnc) hh
theorem m0 (hτ:TabOK P τ) {d:Nat} (hi:ops[i]? =some o) (hw:aT ops ⟨t,ds⟩ o=some true) (hd:o.dst=some d) (hc:n7 (cls i)=true) {ty tx e:TypeId} {s x:Operand} (ho:o.op=.call {callee:=.builtin .append,args:=#[s,x],argTypes:=#[ty,tx]})
  {id n cap sz:Nat} {l ys:List AV} (hS:AF.ev ⟨t,ds⟩ s=.osl id 0 n cap sz) (hM:M.get id=some (.cells l)) {ti ei xi:TI} (ht:aJ τ ty=some ti) (hk:ti.k=.slice e) (he:aJ τ e=some ei) (hp:decide (0 < ei.size)=true) (hxi:aJ τ tx=some xi)
  (hsz:sz=ei.size) (hf:eG xi.k (AF.ev ⟨t,ds⟩ x)=true) (hX:iI ei.size (AF.ev ⟨t,ds⟩ x)=some ys) (hl:l.length=cap*sz) (hnc:n≤cap) (hb:(n+ys.length)*ei.bytes≤140737488355328) (hlen:n+ys.length≤140737488355328)
  (h:∀(cap':Nat) (l':List AV),n+ys.length≤cap'→l'.length=cap'*sz→l'.take ((n+ys.length)*sz)=l.take (n*sz)++b8 ys→DW P ops cls Q ds ls ((d,.osl M.next 0 (n+ys.length) cap' sz)::t) ((M.drop id).push (.cells l'))):DW P ops cls Q ds (i::ls) t M:=by
 refine eN hi hw ?_
 refine SC.of_G hc (by intro c hc;rw[ho] at hc;cases hc) ?_
 ·refine jD.mono (zV hτ ⟨ht,hk,he,of_decide_eq_true hp⟩ hxi ho hS hsz hM hl hnc hf hX hb hlen) ?_
  rintro u M' ⟨cap',l',h1,h2,h3,rfl,rfl⟩
  have:=h cap' l' h1 h2 h3
  simpa [AF.put,hd] using this
theorem s4 (hτ:TabOK P τ) {d:Nat} (hi:ops[i]? =some o) (hw:aT ops ⟨t,ds⟩ o=some true) (hd:o.dst=some d) (hc:n7 (cls i)=true) {ty tx e:TypeId} {s x:Operand} (ho:o.op=.call {callee:=.builtin .append,args:=#[s,x],argTypes:=#[ty,tx]})
  {sz:Nat} {xs ys:List AV} (hS:AF.ev ⟨t,ds⟩ s=.sl sz xs .full) {ti ei xi:TI} (ht:aJ τ ty=some ti) (hk:ti.k=.slice e) (he:aJ τ e=some ei) (hp:decide (0 < ei.size)=true) (hxi:aJ τ tx=some xi)
  (hsz:sz=ei.size∨xs=[]) (hf:eG xi.k (AF.ev ⟨t,ds⟩ x)=true) (hX:iI ei.size (AF.ev ⟨t,ds⟩ x)=some ys) (hne:ys≠[]) (hb:(xs.length+ys.length)*ei.bytes≤140737488355328) (hlen:xs.length+ys.length≤140737488355328)
  (h:∀(cap':Nat) (l':List AV),xs.length+ys.length≤cap'→l'.length=cap'*ei.size→l'.take ((xs.length+ys.length)*ei.size)=b8 xs++b8 ys→DW P ops cls Q ds ls ((d,.osl M.next 0 (xs.length+ys.length) cap' ei.size)::t) (M.push (.cells l'))):DW P ops cls Q ds (i::ls) t M:=by
 refine eN hi hw ?_
 refine SC.of_G hc (by intro c hc;rw[ho] at hc;cases hc) ?_
 ·refine jD.mono (zT hτ ⟨ht,hk,he,of_decide_eq_true hp⟩ hxi ho hS hsz hne hf hX hb hlen) ?_
  rintro u M' ⟨cap',l',h1,h2,h3,rfl,rfl⟩
  have:=h cap' l' h1 h2 h3
  simpa [AF.put,hd] using this
end
def qP (μ:Mu) (k id:Nat):Mu:=fun i=>if i < k then μ i else if i=k then μ id else none
theorem x4 {μ:Mu} {k id b o:Nat} (h:jG (qP μ k id) b o):jG μ b o:=by
 have key:∀i x,qP μ k id i=some x→∃j,μ j=some x:=by
  intro i x hx
  unfold qP at hx
  split at hx
  ·exact⟨i,hx⟩
  ·split at hx
   ·exact⟨id,hx⟩
   ·cases hx
 obtain⟨i,h1|⟨e,g,h1,he⟩⟩:=h
 ·obtain⟨j,hj⟩:=key i _ h1
  exact⟨j,.inl hj⟩
 ·obtain⟨j,hj⟩:=key i _ h1
  exact⟨j,.inr ⟨e,g,hj,he⟩⟩
theorem XF {μ:Mu} {F:c8} {k id b o:Nat} (h:iO μ F b o):iO (qP μ k id) F b o:=⟨h.1,fun ho=>h.2 (x4 ho)⟩
def gJ (k id:Nat) (x y:AV):Prop:=∀(μ:Mu) (F:c8) (w:World) (v:Value),bP μ F w x v→bP (qP μ k id) F w y v
theorem gJ.of_closed {k id:Nat} {x:AV} (h:aN x):gJ k id x x:=fun μ F w v hr=>h μ (qP μ k id) F F w v (fun _ _ hf=>XF hf) hr
theorem gJ.top {k id:Nat} {x:AV}:gJ k id x .top:=fun _ _ _ v _=>.top v
theorem gJ.pre {k id:Nat} {x y z:AV} (h:Sub x y) (h2:gJ k id y z):gJ k id x z:=fun μ F w v hr=>h2 _ _ _ _ (h μ F w v hr)
theorem gJ.ptr {k id j off:Nat} (h:decide (j < k)=true):gJ k id (.ptr j off) (.ptr j off):=by
 intro μ F w v hr
 have h':=of_decide_eq_true h
 cases hr with
 |ptr _ _ _ h1 h2 h3=>exact .ptr _ _ _ h1 (by simp[qP,h',h2]) (fun b hb=>h3 b (by simpa [qP,h'] using hb))
theorem gJ.osl {k id off n cap sz:Nat}:gJ k id (.osl id off n cap sz) (.osl k off n cap sz):=by
 intro μ F w v hr
 cases hr with
 |osl _ _ _ _ _ _ h1 h2 h3=>exact .osl _ _ _ _ _ _ h1 (by simp[qP,h2]) (fun b hb=>h3 b (by simpa [qP] using hb))
def IZ (k id:Nat) (f:AF):List (Nat×AV)→Prop
 |[]=>True
 |(i,x)::r=>gJ k id (f.get i) x∧IZ k id f r
theorem D7 {k id:Nat} {f:AF}:∀{l:List (Nat×AV)} {d:List bJ},IZ k id f l→∀t,gJ k id (f.get t) (AF.get ⟨l,d⟩ t)
 |[],d,_,t=>gJ.top
 |(i,x)::r,d,h,t=>by
  by_cases e:t=i
  ·subst e
   have:AF.get ⟨(t,x)::r,d⟩ t=x:=by simp[AF.get,aJ]
   rw[this];exact h.1
  ·have:AF.get ⟨(i,x)::r,d⟩ t=AF.get ⟨r,d⟩ t:=by simp[AF.get,aJ,e]
   rw[this];exact D7 h.2 t
def QE (k id:Nat) (l:List AV):Prop:=∀x,x∈l→gJ k id x x
def PX (k id:Nat):List bJ→Prop
 |[]=>True
 |d::r=>d.mark=none∧QE k id d.cap∧QE k id d.args∧QE k id (d.keep.map (·.2))∧PX k id r
def YO (k id:Nat) (M:aG):List (Nat×c7)→Prop
 |[]=>True
 |(i,o)::r=>i < k∧M.get i=some o∧(match o with|.cells l=>QE k id l|.spare _=>True|.raw _ _ _ _=>False)∧YO k id M r
theorem oU {k id:Nat} {M:aG}:∀{l:List (Nat×c7)} {i:Nat} {o:c7},YO k id M l→aJ l i=some o→i < k∧M.get i=some o∧(match o with|.cells l=>QE k id l|.spare _=>True|.raw _ _ _ _=>False)
 |[],i,o,_,h=>by cases h
 |(j,p)::r,i,o,h,hl=>by
  simp only[aJ] at hl
  split at hl
  ·rename_i e
   subst e
   cases hl
   exact⟨h.1,h.2.1,h.2.2.1⟩
  ·exact oU h.2.2.2 hl
theorem VO {k id:Nat} {μ:Mu} {F:c8} {w:World} {l:List AV} {c:Array Value} (h:QE k id l) (hr:cN μ F w l c):cN (qP μ k id) F w l c:=
 ⟨hr.1,fun i x v hx hv=>h x (List.mem_of_getElem? hx) _ _ _ _ (hr.2 i x v hx hv)⟩
theorem VQ {k id:Nat} {μ:Mu} {F:c8} {w:World}:∀{ds:List bJ} {rs:List Deferred},PX k id ds→fM μ F w ds rs→fM (qP μ k id) F w ds rs
 |[],[],_,_=>trivial
 |[],_::_,_,h=>h.elim
 |_::_,[],_,h=>h.elim
 |_::_,_::_,⟨k0,k1,k2,_,k4⟩,⟨⟨h1,h3,_⟩,h4⟩=>⟨⟨fun h=>(h1 h).imp fun _ h=>⟨h.1,VO k1 h.2⟩,VO k2 h3,fun y hy=>by rw[k0] at hy;cases hy⟩,VQ k4 h4⟩
theorem VR {k id:Nat}:∀{ds:List bJ},PX k id ds→∀p,p∈dD ds→gJ k id p.2 p.2
 |[],_,p,hp=>by cases hp
 |d::r,⟨_,_,_,k3,k4⟩,p,hp=>by
  simp only[dD,List.mem_append] at hp
  rcases hp with hp|hp
  ·exact k3 _ (List.mem_map.2 ⟨p,hp,rfl⟩)
  ·exact VR k4 p hp
theorem aR.move {n0:Nat} {f:AF} {M:aG} {k id:Nat} {l:List AV} (hk:n0≤k) (hki:k≤id) (hM:M.get id=some (.cells l)) {l2:List AV} (hl2:l2.length=l.length) (hl:∀(j:Nat) (x y:AV),l[j]? =some x→l2[j]? =some y→gJ k id x y) {t:List (Nat×AV)} {ol:List (Nat×c7)} (hd:PX k id f.d) (ht:IZ k id f t) (ho:YO k id M ol):
  aR n0 f M ⟨t,f.d⟩ ⟨k+1,(k,.cells l2)::ol⟩:=by
 intro μ0 μ F w0 w n a hn he hg hr
 obtain⟨b,c,ty,o1,o2,o3,o4,o5⟩:=hg.obj id l hM
 have hid:id < M.next:=(hg.dom id).1 (by rw[o1];simp)
 have hlies:∀i b',dH (qP μ k id) i b'→(i < k∧dH μ i b')∨(i=k∧dH μ id b'):=by
  intro i b' h
  by_cases h1:i < k
  ·refine .inl ⟨h1,?_⟩
   rcases h with h|⟨e,g,h⟩
   ·exact .inl (by simpa [qP,h1] using h)
   ·exact .inr ⟨e,g,by simpa [qP,h1] using h⟩
  ·by_cases h2:i=k
   ·refine .inr ⟨h2,?_⟩
    subst h2
    rcases h with h|⟨e,g,h⟩
    ·exact .inl (by simpa [qP] using h)
    ·exact .inr ⟨e,g,by simpa [qP] using h⟩
   ·rcases h with h|⟨e,g,h⟩<;>simp[qP,h1,h2] at h
 refine⟨qP μ k id,?_,?_,⟨hr.size,fun i=>D7 ht i μ F w _ (hr.tmps i),VQ hd hr.defs,fun p hp=>VR hd p hp _ _ _ _ (hr.kept p hp)⟩⟩
 ·refine⟨he.os,he.tape,he.output,he.size,?_,he.same,he.part,fun b o hb ho=>he.own b o hb (x4 ho)⟩
  intro i hi
  have:=Nat.lt_of_lt_of_le (hn i hi) hk
  simp only[qP,this,if_true]
  exact he.mu i hi
 ·refine {dom:=?_,obj:=?_,spare:=?_,inj:=?_,frm:=fun b o h=>hg.frm b o (x4 h),fit:=⟨fun b o h=>hg.fit.own b o (x4 h),hg.fit.frm⟩,raw:=?_}
  ·intro i
   show qP μ k id i≠none↔i < k+1
   unfold qP
   split
   ·rename_i h
    have:μ i≠none:=(hg.dom i).2 (by omega)
    exact⟨fun _=>by omega,fun _=>this⟩
   ·split
    ·rename_i h
     exact⟨fun _=>by omega,fun _=>by rw[o1];simp⟩
    ·exact⟨fun h=>absurd rfl h,fun h=>by omega⟩
  ·intro i m hm
   simp only[aG.get,aJ] at hm
   split at hm
   ·rename_i e
    subst e
    cases hm
    refine⟨b,c,ty,by simp[qP,o1],o2,by rw[o3,hl2],o4,fun j y v hy hv=>?_⟩
    have hj:j < l.length:=by rw[←hl2];exact (List.getElem?_eq_some_iff.1 hy).1
    exact hl j _ y (List.getElem?_eq_getElem hj) hy _ _ _ _ (o5 j _ v (List.getElem?_eq_getElem hj) hv)
   ·obtain⟨h1,h2,h3⟩:=oU ho hm
    obtain⟨b',c',ty',p1,p2,p3,p4,p5⟩:=hg.obj i m h2
    exact⟨b',c',ty',by simp[qP,h1,p1],p2,p3,p4,fun j x v hx hv=>h3 x (List.mem_of_getElem? hx) _ _ _ _ (p5 j x v hx hv)⟩
  ·intro i g hm
   simp only[aG.get,aJ] at hm
   split at hm
   ·cases hm
   ·obtain⟨h1,h2,_⟩:=oU ho hm
    obtain⟨p,q1,q2⟩:=hg.spare i g h2
    exact⟨p,by simp[qP,h1,q1],q2⟩
  ·intro i j b' hi hj
   rcases hlies i b' hi with ⟨a1,a2⟩|⟨a1,a2⟩<;>rcases hlies j b' hj with ⟨b1,b2⟩|⟨b1,b2⟩
   ·exact hg.inj i j b' a2 b2
   ·have:=hg.inj i id b' a2 b2;omega
   ·have:=hg.inj j id b' b2 a2;omega
   ·omega
  ·intro i gg o vs t hm
   simp only[aG.get,aJ] at hm
   split at hm
   ·cases hm
   ·exact (oU ho hm).2.2.elim
theorem aR.freeze {n0:Nat} {t:List (Nat×AV)} {ds:List bJ} {M:aG} (i:Nat) {id n cap:Nat} {l xs:List AV} (h:AF.get ⟨t,ds⟩ i=.osl id 0 n cap 1) (hM:M.get id=some (.cells l)) (hx:l.take n=xs) (hnl:n≤l.length) (hnc:n≤cap) (h1:∀x,x∈xs→x.cells=[x]):
  aR n0 ⟨t,ds⟩ M ⟨(i,.sl 1 xs .none)::t,ds⟩ (M.drop id):=by
 intro μ0 μ F w0 w m a hn he hg hr
 obtain⟨b,c,ty,o1,o2,o3,o4,o5⟩:=hg.obj id l hM
 have hid:id < M.next:=(hg.dom id).1 (by rw[o1];simp)
 obtain⟨μ2,k1,k2,k3,k4⟩:=lM hg hid
 have hv:=hr.tmps i
 rw[h] at hv
 obtain⟨b',hb',hv'⟩:=eK hg hM hv
 rw[o1] at hb'
 cases hb'
 have hlen:xs.length=n:=by rw[←hx,List.length_take];omega
 refine⟨μ2,he.trans k3,k4 _ rfl (fun j=>aG.get_drop M id j),hr.size,?_,hr.defs.evo k3,fun p hp=>(hr.kept p hp).evo k3⟩
 intro j
 by_cases e:j=i
 ·subst e
  have:AF.get ⟨(j,.sl 1 xs .none)::t,ds⟩ j=.sl 1 xs .none:=by simp[AF.get,aJ]
  rw[this,hv',←hlen]
  have key:∀(p:Nat) (x:AV) (q:Nat) (y:AV),xs[p]? =some x→x.cells[q]? =some y→q=0∧y=x∧l[p]? =some x∧p < l.length:=by
   intro p x q y hp hq
   rw[h1 x (List.mem_of_getElem? hp)] at hq
   have hpn:p < n:=by rw[←hlen];exact (List.getElem?_eq_some_iff.1 hp).1
   rw[←hx,List.getElem?_take,if_pos hpn] at hp
   cases q with
   |zero=>simp at hq;exact⟨rfl,hq.symm,hp,by omega⟩
   |succ q=>simp at hq
  have hcell:∀p,p < l.length→c[p]? =some (c.getD p undef):=by
   intro p hp
   have:p < c.size:=by omega
   simp[Array.getD,this]
  refine .sl 1 xs .none _ _ ⟨b,0,none⟩ (fun p=>c.getD p undef) ?_ (by omega) (fun _=>⟨rfl,rfl⟩) ?_ ?_ ?_ trivial
  ·intro x hx'
   rw[h1 x hx']
   rfl
  ·intro p x q y hp hq
   obtain⟨rfl,rfl,h2,h3⟩:=key p x q y hp hq
   simp only[Nat.mul_one,Nat.add_zero]
   exact o4 p _ (hcell p h3)
  ·intro p x q y hp hq
   obtain⟨rfl,rfl,h2,h3⟩:=key p x q y hp hq
   simp only[Nat.mul_one,Nat.add_zero,Nat.zero_add]
   refine⟨by rw[cF o2];exact hcell p h3,hg.frm b p ⟨id,.inl o1⟩,?_⟩
   intro ho
   obtain⟨i',hi',h4|⟨e',g',h4,_⟩⟩:=k2 b p ho
   ·exact hi' (hg.inj i' id b (.inl h4) (.inl o1))
   ·exact hi' (hg.inj i' id b (.inr ⟨e',g',h4⟩) (.inl o1))
  ·intro p x q y hp hq
   obtain⟨rfl,rfl,h2,h3⟩:=key p x q y hp hq
   simp only[Nat.mul_one,Nat.add_zero]
   exact (o5 p _ _ h2 (hcell p h3)).evo k3
 ·have:AF.get ⟨(i,.sl 1 xs .none)::t,ds⟩ j=AF.get ⟨t,ds⟩ j:=by simp[AF.get,aJ,e]
  rw[this]
  exact (hr.tmps j).evo k3
end Go.Ab
namespace Go.Ab
open Go.RowKit
def a1w:Option TypeDesc→Bool
 |some (.pointer _)=>false
 |some _=>true
 |none=>false
def eW (P:Program) (t:TypeId) (name:String):Option FuncId:=
 match P.info? t with
 |some i=>(match i.methods.find? (·.name==name) with
  |some m=>(match m.path.toList,m.func,a1w (P.underlying t) with
   |[],some (g,false),true=>some g
   |_,_,_=>none)
  |none=>none)
 |none=>none
theorem KR {P:Program} {t:TypeId} {name:String} {g:FuncId} (h:eW P t name=some g) (v:Value) (w:World) (k:Nat):(method (k+1) t v name).run P w=.ok (g,v) w:=by
 unfold eW at h
 split at h
 case h_2=>cases h
 rename_i i hi
 split at h
 case h_2=>cases h
 rename_i m hm
 split at h
 case h_2=>cases h
 rename_i hp hf hn
 cases h
 have hu:∃d,P.underlying t=some d∧∀e,d≠.pointer e:=by
  cases hd:P.underlying t with
  |none=>rw[hd] at hn;cases hn
  |some d=>
   refine⟨d,rfl,?_⟩
   rintro e rfl
   rw[hd] at hn
   cases hn
 obtain⟨d,hd,hne⟩:=hu
 unfold method
 simp only[Sem.run_bind,typeInfo,hi,hm,hp,hf,follow,Result.andThen_ok]
 simp[hi,hm,hp,hf,follow,receiverAt,run_underlying hd,Place.get]
theorem mH {P:Program} {o:Oper} {x:Operand} {name:String} {ags:Array Operand} {ts:Array TypeId} (ho:o.op=.call {callee:=.invoke x name,args:=ags,argTypes:=ts}) {ρ:Operand→AV} {M:aG} {t:TypeId} {y:AV}
  (hx:ρ x=.iface t y) {g:FuncId} (hm:eW P t name=some g) {R:cH→aG→Prop} (hc:aQ P g (y::ags.toList.map ρ) M R) {K Kp:AV→aG→Prop} (h1:∀u M',R (.ret u) M'→K u M') (h2:∀u M',R (.pan u) M'→Kp u M'):jD P o ρ M K Kp:=by
 intro μ F w a hg hr next Q' g1 g2
 have hv:=hr x (by simp[ho,Op.operands,Call.operands])
 rw[hx] at hv
 generalize hxv:a.eval x=xv at hv
 cases hv with
 |iface _ _ u hu=>
 have hargs:cN μ F w (ags.toList.map ρ) (ags.map a.eval):=cN.map fun y hy=>hr y (by simp[ho,Op.operands,Call.operands,hy])
 have hall:cN μ F w (y::ags.toList.map ρ) (#[u]++ags.map a.eval):=(cN.cons hu).app hargs
 have hcall:=hc.2 μ F w _ hg hall
 have hrun:(execOp a.eval o).run P w=.ok (.enter g (#[u]++ags.map a.eval)) w:=by
  have hk:∃k,P.types.size+Made.depth=k+1:=⟨P.types.size+(Made.depth - 1),rfl⟩
  obtain⟨k,hk⟩:=hk
  have e0:(#[Value.iface t u]++ags.map a.eval)[0]? =some (Value.iface t u):=by rw[Array.getElem?_append_left (by simp)];rfl
  have e1:(#[Value.iface t u]++ags.map a.eval).extract 1 (#[Value.iface t u]++ags.map a.eval).size=ags.map a.eval:=by
   apply Array.ext'
   simp only[Array.toList_extract,Array.toList_append,Array.size_append,Array.toList_map,List.extract_eq_take_drop]
   simp
   exact List.take_of_length_le (by simp)
  have e2:(callMethod (.iface t u) name (ags.map a.eval)).run P w=.ok (.enter g (#[u]++ags.map a.eval)) w:=by
   simp[callMethod,hk,KR hm,jV hc.1]
  have e3:(invoke (.fn (.method name) #[]) (#[Value.iface t u]++ags.map a.eval)).run P w=.ok (.enter g (#[u]++ags.map a.eval)) w:=by
   unfold invoke
   simp only
   rw[e0,e1]
   exact e2
  simp only[execOp,ho,resolve,hxv]
  simpa using e3
 unfold Oper.wp
 rw[hrun]
 simp only[Oper.upon]
 refine hcall.mono ?_
 rintro e w' ⟨μ',M',e1,e2,e3⟩
 cases e with
 |returned v=>
  obtain⟨u,e4,e5⟩:=e3
  exact g1 μ' M' w' v u e1 e2 e4 (h1 u M' e5)
 |panicked ch=>
  obtain⟨u,v,rfl,e4,e5⟩:=e3
  exact g2 μ' M' w' v u e1 e2 e4 (h2 u M' e5)
 |outgrown=>exact e3.elim
section
variable {P:Program} {τ:Tab} {ops:Array Oper} {cls:Nat→fQ} {Q:AX→AF→aG→Prop} {ds:List bJ} {l:List Nat} {i:Nat} {o:Oper} {t:List (Nat×AV)} {M M':aG} {x:AV}
theorem cW {d:Nat} (hi:ops[i]? =some o) (hw:aT ops ⟨t,ds⟩ o=some true) (hd:o.dst=some d) {y:Operand} {name:String} {ags:Array Operand} {ts:Array TypeId} (ho:o.op=.call {callee:=.invoke y name,args:=ags,argTypes:=ts})
  {ty:TypeId} {z:AV} (hx:AF.ev ⟨t,ds⟩ y=.iface ty z) {g:FuncId} (hm:eW P ty name=some g) (hcall:aO P g (z::ags.toList.map (AF.ev ⟨t,ds⟩)) x)
  (h:DW P ops cls Q ds l ((d,x)::t) M):DW P ops cls Q ds (i::l) t M:=by
 refine eN hi hw ?_
 have key:∀N,jD P o (AF.ev ⟨t,ds⟩) N (fun u M'=>u=x∧M'=N) fun _ _=>False:=fun N=>
  mH ho hx hm (hcall N) (fun u M' hu=>by obtain⟨e1,e2⟩:=hu;cases e1;exact⟨rfl,e2⟩) (fun u M' hu=>by cases hu.1)
 have hk:DW P ops cls Q ds l (AF.put ⟨t,ds⟩ o.dst x).t M:=by simpa [AF.put,hd] using h
 generalize cls i=c
 cases c with
 |P=>exact⟨x,key,hk⟩
 |R=>exact⟨x,key M,hk⟩
 |E=>
  refine (mH ho hx hm (hcall M) (fun u M' hu=>?_) (fun u M' hu=>by cases hu.1):jD P o _ M _ _)
  obtain⟨e1,e2⟩:=hu
  cases e1
  subst e2
  exact hk
 |Y=>
  refine jD.toI (by intro c hc;rw[ho] at hc;cases hc) ?_
  refine mH ho hx hm (hcall M) ?_ (fun u M' ⟨e,_⟩=>by cases e)
  intro u M' ⟨e,e'⟩
  cases e
  subst e'
  exact hk
theorem qV {d:Nat} (hi:ops[i]? =some o) (hw:aT ops ⟨t,ds⟩ o=some true) (hd:o.dst=some d) {y:Operand} {name:String} {ags:Array Operand} {ts:Array TypeId} (ho:o.op=.call {callee:=.invoke y name,args:=ags,argTypes:=ts})
  {ty:TypeId} {z:AV} (hx:AF.ev ⟨t,ds⟩ y=.iface ty z) {g:FuncId} (hm:eW P ty name=some g) (hc:n7 (cls i)=true) {R:cH→aG→Prop} (hcall:aQ P g (z::ags.toList.map (AF.ev ⟨t,ds⟩)) M R)
  (h1:∀u M',R (.ret u) M'→DW P ops cls Q ds l ((d,u)::t) M') (h2:∀u M',R (.pan u) M'→Q (.panic u) ⟨dD ds,ds⟩ M'):DW P ops cls Q ds (i::l) t M:=by
 refine eN hi hw ?_
 have:SC P o .E (AF.ev ⟨t,ds⟩) M (fun x M'=>DW P ops cls Q ds l (AF.put ⟨t,ds⟩ o.dst x).t M') fun v M'=>Q (.panic v) ⟨dD ds,ds⟩ M':=
  mH ho hx hm hcall (fun u M' hu=>by simpa [AF.put,hd] using h1 u M' hu) h2
 generalize cls i=c at hc ⊢
 cases c with
 |E=>exact this
 |Y=>exact jD.toI (by intro c hc;rw[ho] at hc;cases hc) this
 |_=>cases hc
end
end Go.Ab
namespace Go.Ab
open Go.RowKit
theorem v7 {P:Program} {t tx ty e:TypeId} {k:IntKind} {i:TypeInfo} {z:Value} (ht:P.underlying t=some (.slice e)) (hx:P.underlying tx=some (.int k)) (hi:P.info? e=some i) (hz:i.zero=some z) (n:Nat) (h0:0 < n) (h1:n≤140737488355328) (h2:n*i.bytes≤140737488355328) (hsz:0 < i.size) (w:World) (A:Option Addr) (hold:(Builtin.firstCells i.size 0 (.slice A 0 0)).run P w.drew=.ok #[] w.drew):
  (Builtin.append_ #[t,tx] ty #[.slice A 0 0,.int .i64 n]).run P w=
   .ok (.slice (some ⟨w.heap.size,0,none⟩) n (grownCap w n 0 e))
    (w.drew.alloc (.cells (Builtin.zeroCells z.cells n++Builtin.zeroCells z.cells (grownCap w n 0 e - n)) e)):=by
 have hw:IntKind.wrap .i64 (n:Int)=n:=wrap_small (by omega) (by omega)
 have a1:¬((n:Int) < 0):=by omega
 have a2:¬(281474976710656 < (n:Int)*(i.bytes:Int)):=by
  have:((n*i.bytes:Nat):Int)=(n:Int)*(i.bytes:Int):=by push_cast;rfl
  omega
 have a3:¬(9223372036854775807 < (n:Int)):=by omega
 have a4:¬n=0:=by omega
 have a5:¬i.size=0:=by omega
 have hcap:Builtin.nextslicecap n 0=n:=by unfold Builtin.nextslicecap;rw[if_pos (by omega)]
 have a6:¬(281474976710656 < n*i.bytes):=by omega
 have a7:¬((n:Int)≤0):=by omega
 have a8:¬(9223372036854775807 < max (n:Int) 0):=by omega
 have a9:¬(n=0∨i.size=0):=by omega
 simp[Builtin.append_,run_underlying ht,run_underlying hx,sizeOf,typeInfo,zeroValue,hi,hz,hw,a1,a2,a3,a4,a5,a6,a7,a8,a9,hcap,Question.forced,newRow,grownCap,hold,asInt,asIntOf]
 intro h
 exact absurd (Nat.mul_eq_zero.1 h) a9
theorem uM {P:Program} {τ:Tab} (hτ:TabOK P τ) {t tx e:TypeId} {ti ei xi:TI} (hin:pY P τ t e ti ei) (hxi:aJ τ tx=some xi) (hxk:xi.k=.int .i64) {o:Oper} {s x:Operand}
  (ho:o.op=.call {callee:=.builtin .append,args:=#[s,x],argTypes:=#[t,tx]}) {ρ:Operand→AV} {M:aG} {sz n:Nat} (hS:ρ s=.sl sz [] .full) (hX:ρ x=.int .i64 (n:Int)) (h0:0 < n)
  (hb:n*ei.bytes≤140737488355328) (hlen:n≤140737488355328) {Kp:AV→aG→Prop}:
  jD P o ρ M (fun u M'=>∃(cap':Nat) (l':List AV),n≤cap'∧l'.length=cap'*ei.size∧u=.osl M.next 0 n cap' ei.size∧M'=M.push (.cells l')) Kp:=by
 intro μ F w a hg hr next Q' hnext _
 have hs:=hr s (by simp[ho,Op.operands,Call.operands])
 have hx:=hr x (by simp[ho,Op.operands,Call.operands])
 rw[hS] at hs
 rw[hX] at hx
 generalize hxe:a.eval x=xe at hx
 cases hx
 generalize hse:a.eval s=se at hs
 have hsv:∃A,se=.slice A 0 0:=by
  cases hs with
  |sl _ _ _ A cap ad vals hsz hcap hA hone hcell hrep htag=>
   have:cap=0:=htag
   subst this
   exact⟨A,rfl⟩
 obtain⟨A,rfl⟩:=hsv
 obtain⟨ft,dt,zt,HT⟩:=TI.spec hτ hin.tl
 obtain⟨fe,de,ze,HE⟩:=TI.spec hτ hin.el
 obtain⟨fx,dx,zx,HX⟩:=TI.spec hτ hxi
 have hfi:=HT.fits
 rw[hin.tk] at hfi
 have hdd:dt=.slice e:=by
  cases dt<;>simp[TK.fits] at hfi
  rw[hfi]
 subst hdd
 have hfx:=HX.fits
 rw[hxk] at hfx
 have hdx:dx=.int .i64:=by
  cases dx<;>simp[TK.fits] at hfx
  rw[hfx]
 subst hdx
 have hex:∀v w',(Builtin.append_ #[t,tx] o.type #[a.eval s,a.eval x]).run P w=.ok v w'→(execOp a.eval o).run P w=.ok (.value v) w':=by
  intro v w' h
  simp[execOp,ho,resolve,invoke,builtin,h]
 unfold Oper.wp
 have hold:(Builtin.firstCells fe.size 0 (.slice A 0 0)).run P w.drew=.ok #[] w.drew:=by
  cases A with
  |none=>simp[Builtin.firstCells]
  |some ad=>simp[Builtin.firstCells,loadCells,loadCellsFrom]
 have hrun:=v7 (ty:=o.type) (P:=P) HT.und HX.und HE.info HE.zero n h0 hlen (by rw[HE.bytes];exact hb) (by rw[HE.size];exact hin.pos) w A hold
 have hge:=grownCap_ge w n 0 e
 generalize hcap:grownCap w n 0 e=cap' at hrun hge
 let c':Array Value:=Builtin.zeroCells ze.cells n++Builtin.zeroCells ze.cells (cap' - n)
 let w':World:=w.drew.alloc (.cells c' e)
 have hzs:ze.cells.size=ei.size:=by
  have:=(bV HE.cells).1
  simp only[Array.length_toList] at this
  rw[this,HE.len]
 have hc's:c'.size=cap'*ei.size:=by
  simp only[c',Array.size_append,size_zeroCells,hzs,←Nat.add_mul]
  rw[Nat.add_sub_cancel' hge]
 have hheap:w'.heap[w.heap.size]? =some (.cells c' e (0,0)):=heap_alloc_new w.drew _
 have hbelow:Below w.heap.size w w':=⟨rfl,rfl,rfl,by simp[w',World.alloc],fun k hk=>heap_alloc_old w.drew _ hk⟩
 let l':List AV:=List.replicate (cap'*ei.size) .top
 have hl':l'.length=cap'*ei.size:=by simp[l']
 have hone:∀(m:Nat) (v:Value),v∈Builtin.zeroCells ze.cells m→v.oneCell'=true:=fun m v hm=>j0 (z:=ze.cells) (fun u hu=>by
   obtain⟨j,hj⟩:=List.getElem?_of_mem (Array.mem_toList_iff.2 hu)
   have hjl:j < ei.zero.length:=by
    rw[HE.len,←hzs,←Array.length_toList]
    exact (List.getElem?_eq_some_iff.1 hj).1
   obtain⟨rfl,hp⟩:=(bV HE.cells).2 j u _ (by simpa using hj) (List.getElem?_eq_getElem hjl)
   exact oQ hp) (by rw[hzs];exact hin.pos) _ v hm
 obtain⟨hev,hG⟩:=j9 hg hbelow (l:=l') (c:=c') (ty:=e) (b:=w.heap.size) (Nat.le_refl _) hheap (by rw[hc's,hl']) (by
   intro i v hi
   have hm:=Array.mem_of_getElem? hi
   rcases Array.mem_append.1 hm with h|h
   ·exact hone _ v h
   ·exact hone _ v h) (by
   intro i q v hq hi
   have:=List.mem_of_getElem? hq
   rw[List.mem_replicate] at this
   rw[this.2]
   exact .top _)
 rw[hse,hxe] at hex
 rw[hex _ _ hrun]
 exact hnext _ _ _ _ _ hev hG (kS (b:=w.heap.size) (by simp[Mu.put])) ⟨cap',l',hge,hl',rfl,rfl⟩
theorem WZ {μ:Mu} {F:c8} {w:World} {sz:Nat} {xs:List AV} {v:Value} (h:bP μ F w (.sl sz xs .full) v):∃A,v=.slice A xs.length xs.length:=by
 cases h with
 |sl _ _ _ A cap ad vals hsz hcap hA hone hcell hrep htag=>
  have:cap=xs.length:=htag
  subst this
  exact⟨A,rfl⟩
theorem a42 {P:Program} {τ:Tab} (hτ:TabOK P τ) {t e:TypeId} {ti:TI} (ht:aJ τ t=some ti) (hk:ti.k=.slice e) {x:Operand} {ty:TypeId} {ρ:Operand→AV} {sz:Nat} {xs:List AV} (hx:ρ x=.sl sz xs .full):
  jF P (.call {callee:=.builtin .cap,args:=#[x],argTypes:=#[t]}) ty ρ (.int .i64 xs.length):=by
 refine b7 ?_
 intro μ F w ρc o ho hty hr
 have h:=hr x (by simp[Op.operands,Call.operands])
 rw[hx] at h
 obtain⟨A,hv⟩:=WZ h
 obtain⟨ft,dt,zt,HT⟩:=TI.spec hτ ht
 have hfi:=HT.fits
 rw[hk] at hfi
 have hdd:dt=.slice e:=by
  cases dt<;>simp[TK.fits] at hfi
  rw[hfi]
 subst hdd
 exact⟨.int .i64 xs.length,by simp[execOp,ho,resolve,invoke,builtin,hv,Builtin.cap_,run_underlying HT.und,goInt],.int _ _⟩
theorem W7 {P:Program} {t yt:TypeId} {x y:Operand} {ty:TypeId} {ρ:Operand→AV} {u:TypeId} {z:AV} (ht:P.underlying t=some (.interface (P.methodsAt t))) (hx:ρ x=.iface u z) (hy:ρ y=.nilIface):
  jF P (.binOp .eql t x y yt) ty ρ (.bool false):=by
 refine b7 ?_
 intro μ F w ρc o ho hty hr
 have h1:=hr x (by simp[Op.operands])
 have h2:=hr y (by simp[Op.operands])
 rw[hx] at h1
 rw[hy] at h2
 generalize hv1:ρc x=v1 at h1
 generalize hv2:ρc y=v2 at h2
 cases h1
 cases h2
 exact⟨.bool false,by simp[execOp,ho,hv1,hv2,eqGuard,run_eql_held_nil w t _ _ ht],.bool _⟩
theorem F3 {P:Program} {t:TypeId} {name:String} {g:FuncId} (h:eW P t name=some g) (v:Value) (w:World) (k:Nat):(nilAhead (k+1) t v name).run P w=.ok (some false) w:=by
 unfold eW at h
 split at h
 case h_2=>cases h
 rename_i i hi
 split at h
 case h_2=>cases h
 rename_i m hm
 split at h
 case h_2=>cases h
 rename_i hp hf hn
 cases h
 have hu:∃d,P.underlying t=some d∧∀e,d≠.pointer e:=by
  cases hd:P.underlying t with
  |none=>rw[hd] at hn;cases hn
  |some d=>
   refine⟨d,rfl,?_⟩
   rintro e rfl
   rw[hd] at hn
   cases hn
 obtain⟨d,hd,hne⟩:=hu
 unfold nilAhead
 simp only[Sem.run_bind,typeInfo,hi,hm,hp,hf,followBlind,Result.andThen_ok]
 simp[hi,hm,hp,hf,followBlind,run_underlying hd]
 cases d<;>first|exact absurd rfl (hne _)|simp
theorem S9 {P:Program} {x:Operand} {ty:TypeId} {ρ:Operand→AV} {name:String} {u:TypeId} {z:AV} {b:List AV} {g:FuncId} (hx:ρ x=.fn (.method name) [.iface u z] b) (hm:eW P u name=some g):jF P (.nilCheck x) ty ρ (.fn (.method name) [.iface u z] b):=by
 refine b7 ?_
 intro μ F w ρc o ho ht hr
 have h:=hr x (by simp[Op.operands])
 rw[hx] at h
 have h':=h
 obtain⟨c1,c2,hv,hs1,hs2,f1,f2⟩:=h.fn_inv
 rw[hv] at h'
 have h0:0 < c1.size:=by rw[hs1];simp
 have hc:=f1 0 (.iface u z) c1[0] rfl (Array.getElem?_eq_getElem h0)
 have hg:c1[0]? =some c1[0]:=Array.getElem?_eq_getElem h0
 generalize c1[0]=y at hc hg
 cases hc with
 |iface _ _ q hq=>
 have hk:∃k,P.types.size+Made.depth=k+1:=⟨P.types.size+(Made.depth - 1),rfl⟩
 obtain⟨k,hk⟩:=hk
 refine⟨_,?_,h'⟩
 simp[execOp,ho,hv,hg,hk,F3 hm]
section
variable {P:Program} {τ:Tab} {ops:Array Oper} {cls:Nat→fQ} {Q:AX→AF→aG→Prop} {ds:List bJ} {ls:List Nat} {i:Nat} {o:Oper} {t:List (Nat×AV)} {M:aG}
theorem P5 (hτ:TabOK P τ) {d:Nat} (hi:ops[i]? =some o) (hw:aT ops ⟨t,ds⟩ o=some true) (hd:o.dst=some d) (hc:n7 (cls i)=true) {ty tx e:TypeId} {s x:Operand} (ho:o.op=.call {callee:=.builtin .append,args:=#[s,x],argTypes:=#[ty,tx]})
  {sz n:Nat} (hS:AF.ev ⟨t,ds⟩ s=.sl sz [] .full) (hX:AF.ev ⟨t,ds⟩ x=.int .i64 (n:Int)) {ti ei xi:TI} (ht:aJ τ ty=some ti) (hk:ti.k=.slice e) (he:aJ τ e=some ei) (hp:decide (0 < ei.size)=true) (hxi:aJ τ tx=some xi) (hxk:xi.k=.int .i64)
  (h0:0 < n) (hb:n*ei.bytes≤140737488355328) (hlen:n≤140737488355328)
  (h:∀(cap':Nat) (l':List AV),n≤cap'→l'.length=cap'*ei.size→DW P ops cls Q ds ls ((d,.osl M.next 0 n cap' ei.size)::t) (M.push (.cells l'))):DW P ops cls Q ds (i::ls) t M:=by
 refine eN hi hw ?_
 refine SC.of_G hc (by intro c hc;rw[ho] at hc;cases hc) ?_
 ·refine jD.mono (uM hτ ⟨ht,hk,he,of_decide_eq_true hp⟩ hxi hxk ho hS hX h0 hb hlen) ?_
  rintro u M' ⟨cap',l',h1,h2,rfl,rfl⟩
  have:=h cap' l' h1 h2
  simpa [AF.put,hd] using this
theorem E9 (hτ:TabOK P τ) {d:Nat} (hi:ops[i]? =some o) (hw:aT ops ⟨t,ds⟩ o=some true) (hd:o.dst=some d) {x:Operand} {ts:TypeId} (ho:o.op=.call {callee:=.builtin .cap,args:=#[x],argTypes:=#[ts]}) {sz:Nat} {xs:List AV} (hx:AF.ev ⟨t,ds⟩ x=.sl sz xs .full) {e:TypeId} {ti:TI} (ht:aJ τ ts=some ti) (hk:ti.k=.slice e)
  (h:DW P ops cls Q ds ls ((d,.int .i64 xs.length)::t) M):DW P ops cls Q ds (i::ls) t M:=
 fR hi hw hd (by rw[ho];exact a42 hτ ht hk hx) h
theorem a13 {d:Nat} (hi:ops[i]? =some o) (hw:aT ops ⟨t,ds⟩ o=some true) (hd:o.dst=some d) {ts yt:TypeId} {x y:Operand} (ho:o.op=.binOp .eql ts x y yt) (ht:P.underlying ts=some (.interface (P.methodsAt ts))) {u:TypeId} {z:AV} (hx:AF.ev ⟨t,ds⟩ x=.iface u z) (hy:AF.ev ⟨t,ds⟩ y=.nilIface)
  (h:DW P ops cls Q ds ls ((d,.bool false)::t) M):DW P ops cls Q ds (i::ls) t M:=
 fR hi hw hd (by rw[ho];exact W7 ht hx hy) h
theorem VP {d:Nat} (hi:ops[i]? =some o) (hw:aT ops ⟨t,ds⟩ o=some true) (hd:o.dst=some d) {x:Operand} (ho:o.op=.nilCheck x) {name:String} {u:TypeId} {z:AV} {b:List AV} {g:FuncId} (hx:AF.ev ⟨t,ds⟩ x=.fn (.method name) [.iface u z] b) (hm:eW P u name=some g)
  (h:DW P ops cls Q ds ls ((d,.fn (.method name) [.iface u z] b)::t) M):DW P ops cls Q ds (i::ls) t M:=
 fR hi hw hd (by rw[ho];exact S9 hx hm) h
end
end Go.Ab
namespace Go.Ab
open Go.RowKit
theorem HW {P:Program} {τ:Tab} (hτ:TabOK P τ) {t e:TypeId} {ti ei:TI} (ht:aJ τ t=some ti) (hk:ti.k=.slice e) (he:aJ τ e=some ei) {X:Operand} {H:Option Operand} {ty:TypeId} {ρ:Operand→AV} {sz:Nat}
  (hX:ρ X=.sl sz [] .full) (hH:rK (H.map ρ) 0=some 0):jF P (.slice t X none H none) ty ρ (.sl sz [] .full):=by
 refine b7 ?_
 intro μ F w ρc o ho hty hr
 have hx:=hr X (by simp[Op.operands])
 rw[hX] at hx
 have hx0:=hx
 generalize hv:ρc X=v at hx hx0
 obtain⟨A,cap,ad,vals,rfl,hs,hcap,hA,hone,hcell,hrep,htag⟩:=hx.sl_inv
 have hc0:cap=0:=htag
 subst hc0
 obtain⟨ft,dt,zt,HT⟩:=TI.spec hτ ht
 obtain⟨fe,de,ze,HE⟩:=TI.spec hτ he
 have hf:=HT.fits
 rw[hk] at hf
 have hdd:dt=.slice e:=by
  cases dt<;>simp[TK.fits] at hf
  rw[hf]
 subst hdd
 have hb:=kO (P:=P) (w:=w) (isS:=true) (n:=0) (m:=0) (L:=none) (.inl ⟨rfl,rfl⟩) (iD hH fun x hx=>hr x (by simp[Op.operands,hx])) (Int.le_refl 0) (Int.le_refl 0) (by omega)
 refine⟨.slice A 0 0,?_,hx0⟩
 simp only[execOp,ho,hv,Instr.sliceAt,Sem.run_bind,run_underlying HT.und,Result.andThen_ok,Instr.slice,Option.map_none,List.length_nil,hb,run_sizeOf w HE.info,HE.cellsOf,Sem.run_pure]
 simp
section
variable {P:Program} {τ:Tab} {ops:Array Oper} {cls:Nat→fQ} {Q:AX→AF→aG→Prop} {ds:List bJ} {ls:List Nat} {i:Nat} {o:Oper} {t:List (Nat×AV)} {M:aG}
theorem AM (hτ:TabOK P τ) {d:Nat} (hi:ops[i]? =some o) (hw:aT ops ⟨t,ds⟩ o=some true) (hd:o.dst=some d) {ty e:TypeId} {X:Operand} {H:Option Operand} (ho:o.op=.slice ty X none H none) {sz:Nat}
  (hX:AF.ev ⟨t,ds⟩ X=.sl sz [] .full) {ti ei:TI} (ht:aJ τ ty=some ti) (hk:ti.k=.slice e) (he:aJ τ e=some ei) (hH:rK (H.map (AF.ev ⟨t,ds⟩)) 0=some 0)
  (h:DW P ops cls Q ds ls ((d,.sl sz [] .full)::t) M):DW P ops cls Q ds (i::ls) t M:=
 fR hi hw hd (by rw[ho];exact HW hτ ht hk he hX hH) h
theorem gO (hτ:TabOK P τ) {d:Nat} (hi:ops[i]? =some o) (hw:aT ops ⟨t,ds⟩ o=some true) (hd:o.dst=some d) {ty e:TypeId} {X:Operand} {L:Option Operand} (ho:o.op=.slice ty X L none none) {α:Type} {f:α→AV} {l:List α} {sz:Nat} {tg:eE} {lo:Nat}
  (hX:AF.ev ⟨t,ds⟩ X=.sl sz (l.map f) tg) {ti ei:TI} (ht:aJ τ ty=some ti) (hk:ti.k=.slice e) (he:aJ τ e=some ei) (hsz:sz=ei.size) (hL:rK (L.map (AF.ev ⟨t,ds⟩)) 0=some (lo:Int)) (h1:lo≤l.length)
  (h:DW P ops cls Q ds ls ((d,.sl sz ((l.drop lo).map f) .none)::t) M):DW P ops cls Q ds (i::ls) t M:=by
 refine sF hτ hi hw hd ho hX ht hk he hsz hL (hi':=((l.map f).length:Int)) rfl (by omega) (by simp;omega) (Int.le_refl _) ?_
 have e1:((l.map f).take (((l.map f).length:Int)).toNat).drop ((lo:Int)).toNat=(l.drop lo).map f:=by
  have:(l.map f).take (((l.map f).length:Int)).toNat=l.map f:=List.take_of_length_le (by simp)
  rw[this]
  simp
 rw[e1]
 exact h
theorem DE (hτ:TabOK P τ) {d:Nat} (hi:ops[i]? =some o) (hw:aT ops ⟨t,ds⟩ o=some true) (hd:o.dst=some d) {ty e:TypeId} {X:Operand} {H:Option Operand} (ho:o.op=.slice ty X none H none) {α:Type} {f:α→AV} {l:List α} {sz:Nat} {tg:eE} {n:Nat}
  (hX:AF.ev ⟨t,ds⟩ X=.sl sz (l.map f) tg) {ti ei:TI} (ht:aJ τ ty=some ti) (hk:ti.k=.slice e) (he:aJ τ e=some ei) (hsz:sz=ei.size) (hH:rK (H.map (AF.ev ⟨t,ds⟩)) (l.map f).length=some (n:Int)) (h1:n≤l.length)
  (h:DW P ops cls Q ds ls ((d,.sl sz ((l.take n).map f) .none)::t) M):DW P ops cls Q ds (i::ls) t M:=by
 refine sF hτ hi hw hd ho hX ht hk he hsz (lo:=0) rfl hH (by omega) (by omega) (by simp;omega) ?_
 have e1:((l.map f).take ((n:Int)).toNat).drop ((0:Int)).toNat=(l.take n).map f:=by simp
 rw[e1]
 exact h
theorem V0 (hτ:TabOK P τ) {d:Nat} (hi:ops[i]? =some o) (hw:aT ops ⟨t,ds⟩ o=some true) (hd:o.dst=some d) {ty e:TypeId} {X:Operand} {L H:Option Operand} (ho:o.op=.slice ty X L H none) {α:Type} {f:α→AV} {l:List α} {sz:Nat} {tg:eE} {lo n:Nat}
  (hX:AF.ev ⟨t,ds⟩ X=.sl sz (l.map f) tg) {ti ei:TI} (ht:aJ τ ty=some ti) (hk:ti.k=.slice e) (he:aJ τ e=some ei) (hsz:sz=ei.size) (hL:rK (L.map (AF.ev ⟨t,ds⟩)) 0=some (lo:Int)) (hH:rK (H.map (AF.ev ⟨t,ds⟩)) (l.map f).length=some (n:Int)) (h0:lo≤n) (h1:n≤l.length)
  (h:DW P ops cls Q ds ls ((d,.sl sz (((l.take n).drop lo).map f) .none)::t) M):DW P ops cls Q ds (i::ls) t M:=by
 refine sF hτ hi hw hd ho hX ht hk he hsz hL hH (by omega) (by omega) (by simp;omega) ?_
 have e1:((l.map f).take ((n:Int)).toNat).drop ((lo:Int)).toNat=((l.take n).drop lo).map f:=by simp
 rw[e1]
 exact h
end
end Go.Ab
namespace Go.Ab
open Go.RowKit
def t6 (xs:List AV) (cap:Nat):List AV:=xs++List.replicate (cap - xs.length) .top
theorem nP {xs:List AV} {cap:Nat} (h:xs.length≤cap):(t6 xs cap).length=cap:=by
 simp[t6];omega
theorem p6 (xs:List AV) (cap:Nat):(t6 xs cap).take xs.length=xs:=by simp[t6]
theorem XP {k id:Nat} {xs cells:List AV} {n cap:Nat} (hn:n≤xs.length) (hc:cells.take xs.length=xs) (hlen:cells.length=cap) (hl:xs.length≤cap) (hcl:∀x,x∈xs→aN x):
  (t6 (xs.take n) cap).length=cells.length∧∀(j:Nat) (x y:AV),cells[j]? =some x→(t6 (xs.take n) cap)[j]? =some y→gJ k id x y:=by
 have hl':(xs.take n).length=n:=by simp;omega
 refine⟨by rw[nP (by omega),hlen],fun j x y hx hy=>?_⟩
 by_cases hj:j < n
 ·have h1:(cells.take xs.length)[j]? =some x:=by
   rw[List.getElem?_take,if_pos (by omega)]
   exact hx
  rw[hc] at h1
  simp only[t6] at hy
  rw[List.getElem?_append_left (by omega),List.getElem?_take,if_pos hj,h1] at hy
  cases hy
  exact gJ.of_closed (hcl _ (List.mem_of_getElem? h1))
 ·simp only[t6] at hy
  rw[List.getElem?_append_right (by omega)] at hy
  have:=List.mem_of_getElem? hy
  rw[List.mem_replicate] at this
  rw[this.2]
  exact gJ.top
theorem sB {k id:Nat} {xs cells:List AV} {cap:Nat} (hc:cells.take xs.length=xs) (hlen:cells.length=cap) (hl:xs.length≤cap) (hcl:∀x,x∈xs→aN x):
  (t6 xs cap).length=cells.length∧∀(j:Nat) (x y:AV),cells[j]? =some x→(t6 xs cap)[j]? =some y→gJ k id x y:=by
 have:=XP (k:=k) (id:=id) (Nat.le_refl _) hc hlen hl hcl
 rwa [List.take_length] at this
theorem V7 {xs:List AV} (h:∀x,x∈xs→x.cells=[x]):b8 xs=xs:=by
 induction xs with
 |nil=>rfl
 |cons a r ih=>
  have h1:=h a (by simp)
  have h2:=ih (fun x hx=>h x (by simp[hx]))
  show a.cells++b8 r=_
  rw[h1,h2]
  rfl
theorem Sub.iface {t:TypeId} {x y:AV} (h:Sub x y):Sub (.iface t x) (.iface t y):=by
 intro μ F w v hr
 cases hr with
 |iface _ _ u hu=>exact .iface _ _ _ (h _ _ _ _ hu)
theorem Sub.ref1 {x y:AV} (h:Sub x y):Sub (.ref [x]) (.ref [y]):=by
 intro μ F w v hr
 cases hr with
 |ref cells b o vals h1 h2 h3=>
  refine .ref _ b o vals ?_ ?_ ?_
  ·intro j c hc
   match j,hc with
   |0,_=>exact h1 0 x rfl
   |j+1,hc=>simp at hc
  ·intro j c hc
   match j,hc with
   |0,_=>exact h2 0 x rfl
   |j+1,hc=>simp at hc
  ·intro j c hc
   match j,hc with
   |0,hc=>
    simp at hc
    subst hc
    exact h _ _ _ _ (h3 0 x rfl)
   |j+1,hc=>simp at hc
theorem Sub.nil {sz sz':Nat}:Sub (.sl sz [] .full) (.sl sz' [] .none):=fun μ F w v h=>Sub.empty (.inl rfl) μ F w v (tQ h)
theorem Sub.trans {x y z:AV} (h1:Sub x y) (h2:Sub y z):Sub x z:=fun μ F w v h=>h2 _ _ _ _ (h1 _ _ _ _ h)
def rT:BinOp→Bool
 |.neq=>true
 |_=>false
theorem M7 {P:Program} {b:BinOp} (hb:b=.eql∨b=.neq) {t yt:TypeId} {x y:Operand} {ty:TypeId} {ρ:Operand→AV} {c:List AV} (ht:P.underlying t=some (.pointer (P.pointee t))) (hx:ρ x=.ref c) (hy:ρ y=.nilptr):
  jF P (.binOp b t x y yt) ty ρ (.bool (rT b)):=by
 refine b7 ?_
 intro μ F w ρc o ho hty hr
 have h1:=hr x (by simp[Op.operands])
 have h2:=hr y (by simp[Op.operands])
 rw[hx] at h1
 rw[hy] at h2
 generalize hv1:ρc x=v1 at h1
 generalize hv2:ρc y=v2 at h2
 obtain⟨bb,oo,rfl⟩:=iE h1
 cases h2
 rcases hb with rfl|rfl
 ·exact⟨.bool false,by simp[execOp,ho,hv1,hv2,eqGuard,run_eql_pointer_nil w t _ ht],.bool _⟩
 ·exact⟨.bool true,by simp[execOp,ho,hv1,hv2,eqGuard,run_neq_pointer_nil w t _ ht],.bool _⟩
theorem KH {P:Program} {b:BinOp} (hb:b=.eql∨b=.neq) {t yt:TypeId} {x y:Operand} {ty:TypeId} {ρ:Operand→AV} (ht:P.underlying t=some (.pointer (P.pointee t))) (hx:ρ x=.nilptr) (hy:ρ y=.nilptr):
  jF P (.binOp b t x y yt) ty ρ (.bool (!rT b)):=by
 refine b7 ?_
 intro μ F w ρc o ho hty hr
 have h1:=hr x (by simp[Op.operands])
 have h2:=hr y (by simp[Op.operands])
 rw[hx] at h1
 rw[hy] at h2
 generalize hv1:ρc x=v1 at h1
 generalize hv2:ρc y=v2 at h2
 cases h1
 cases h2
 rcases hb with rfl|rfl
 ·exact⟨.bool true,by simp[execOp,ho,hv1,hv2,eqGuard,run_eql_pointer_nil w t _ ht],.bool _⟩
 ·exact⟨.bool false,by simp[execOp,ho,hv1,hv2,eqGuard,run_neq_pointer_nil w t _ ht],.bool _⟩
theorem NN {P:Program} {b:BinOp} (hb:b=.eql∨b=.neq) {t yt:TypeId} {x y:Operand} {ty:TypeId} {ρ:Operand→AV} {M:aG} {id off:Nat} {l:List AV} (ht:P.underlying t=some (.pointer (P.pointee t))) (hx:ρ x=.ptr id off) (hM:M.get id=some (.cells l)) (hy:ρ y=.nilptr):
  wR P (.binOp b t x y yt) ty ρ M (.bool (rT b)):=by
 intro μ F w ρc o hg ho hty hr
 have h1:=hr x (by simp[Op.operands])
 have h2:=hr y (by simp[Op.operands])
 rw[hx] at h1
 rw[hy] at h2
 generalize hv1:ρc x=v1 at h1
 generalize hv2:ρc y=v2 at h2
 cases h2
 obtain⟨bb,c,tb,o1,_⟩:=hg.obj id l hM
 cases h1 with
 |ptr _ _ v k1 k2 k3=>
 have hv:=k3 bb o1
 subst hv
 rcases hb with rfl|rfl
 ·exact⟨.bool false,w,by simp[execOp,ho,hv1,hv2,eqGuard,run_eql_pointer_nil w t _ ht],Below.refl _ _,.bool _⟩
 ·exact⟨.bool true,w,by simp[execOp,ho,hv1,hv2,eqGuard,run_neq_pointer_nil w t _ ht],Below.refl _ _,.bool _⟩
section
variable {P:Program} {τ:Tab} {ops:Array Oper} {cls:Nat→fQ} {Q:AX→AF→aG→Prop} {ds:List bJ} {ls:List Nat} {i:Nat} {o:Oper} {t:List (Nat×AV)} {M:aG}
theorem S0 {d:Nat} (hi:ops[i]? =some o) (hw:aT ops ⟨t,ds⟩ o=some true) (hd:o.dst=some d) {b:BinOp} {ts yt:TypeId} {x y:Operand} (ho:o.op=.binOp b ts x y yt) (hb:b=.eql∨b=.neq) (ht:P.underlying ts=some (.pointer (P.pointee ts))) {c:List AV} (hx:AF.ev ⟨t,ds⟩ x=.ref c) (hy:AF.ev ⟨t,ds⟩ y=.nilptr)
  (h:DW P ops cls Q ds ls ((d,.bool (rT b))::t) M):DW P ops cls Q ds (i::ls) t M:=
 fR hi hw hd (by rw[ho];exact M7 hb ht hx hy) h
theorem T3 {d:Nat} (hi:ops[i]? =some o) (hw:aT ops ⟨t,ds⟩ o=some true) (hd:o.dst=some d) {b:BinOp} {ts yt:TypeId} {x y:Operand} (ho:o.op=.binOp b ts x y yt) (hb:b=.eql∨b=.neq) (ht:P.underlying ts=some (.pointer (P.pointee ts))) (hx:AF.ev ⟨t,ds⟩ x=.nilptr) (hy:AF.ev ⟨t,ds⟩ y=.nilptr)
  (h:DW P ops cls Q ds ls ((d,.bool (!rT b))::t) M):DW P ops cls Q ds (i::ls) t M:=
 fR hi hw hd (by rw[ho];exact KH hb ht hx hy) h
theorem RS {d:Nat} (hi:ops[i]? =some o) (hw:aT ops ⟨t,ds⟩ o=some true) (hd:o.dst=some d) {b:BinOp} {ts yt:TypeId} {x y:Operand} (ho:o.op=.binOp b ts x y yt) (hb:b=.eql∨b=.neq) (hc:pG (cls i)=true) (ht:P.underlying ts=some (.pointer (P.pointee ts))) {id off:Nat} {l:List AV} (hx:AF.ev ⟨t,ds⟩ x=.ptr id off) (hM:M.get id=some (.cells l)) (hy:AF.ev ⟨t,ds⟩ y=.nilptr)
  (h:DW P ops cls Q ds ls ((d,.bool (rT b))::t) M):DW P ops cls Q ds (i::ls) t M:=
 jY hi hw hd hc (by rw[ho];exact NN hb ht hx hM hy) h
end
end Go.Ab
