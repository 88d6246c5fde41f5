/- Parts of the proof, one behind the other. No further condition. -/
import Derived.Test.YteliblifgdofgaaGreatDoorK11
import Derived.Test.YteliblifgdofgaaGreatDoorK09
import Derived.Shelf.Strings.Builder1
import Derived.Test.YteliblifgdofgaaGreatDoorK10
import Derived.Test.YteliblifgdofgaaGreatDoorK12
set_option linter.unusedVariables false
set_option linter.unusedSimpArgs false
set_option maxRecDepth 100000
set_option maxHeartbeats 8000000
namespace Go.Ab
open Go.RowKit
def pJ (g:Nat) (e:TypeId) (c:Array Value):c7:=.raw (some g) (.cells c e (0,0)) #[] []
structure kF (c:Array Value) (bs:List UInt8) (cap:Nat):Prop where
 size:c.size=cap
 le:bs.length≤cap
 at_:∀(i:Nat) (x:UInt8),bs[i]? =some x→c[i]? =some (.int .u8 x.toNat)
theorem C5 {μ:Mu} {F:c8} {M:aG} {w w':World} (h:dY μ F M w) {id g b:Nat} {c0:Array Value} {e:TypeId} {ZU:Nat×Nat} (hid:μ id=some (.spare (some (b,0)) g)) (h0:w.heap[b]? =some (.cells c0 e ZU)) {b':Nat} {o':Obj}
  (hcase:(b'=b∧w6 w b w'∧∃c' fr',o'=.cells c' e fr'∧c'.size=c0.size)∨(w.heap.size≤b'∧Below w.heap.size w w')) (hb':w'.heap[b']? =some o'):
  dQ w μ w' (μ.put id (.spare (some (b',0)) (g+1)))∧dY (μ.put id (.spare (some (b',0)) (g+1))) F (M.set id (.raw (some (g+1)) o' #[] [])) w':=by
 have hlt:b < w.heap.size:=(Array.getElem?_eq_some_iff.1 h0).1
 have hput:∀i,i≠id→(μ.put id (.spare (some (b',0)) (g+1))) i=μ i:=fun i hi=>by simp[Mu.put,hi]
 have hputs:(μ.put id (.spare (some (b',0)) (g+1))) id=some (.spare (some (b',0)) (g+1)):=by simp[Mu.put]
 have hsz:w.heap.size≤w'.heap.size:=by
  rcases hcase with ⟨_,hw,_⟩|⟨_,hb⟩
  ·exact Nat.le_of_eq hw.size.symm
  ·exact hb.size
 have hold:∀k,k < w.heap.size→k≠b→w'.heap[k]? =w.heap[k]? :=by
  intro k hk hne
  rcases hcase with ⟨_,hw,_⟩|⟨_,hb⟩
  ·exact hw.other k hne
  ·exact hb.block k hk
 have hownb:∀o,jG μ b o:=fun o=>⟨id,.inr ⟨0,g,hid,Nat.zero_le _⟩⟩
 have hown:∀k o,jG (μ.put id (.spare (some (b',0)) (g+1))) k o→w.heap.size≤k∨jG μ k o:=by
  rintro k o ⟨i,h1|⟨e',g',h1,he⟩⟩
  ·by_cases hi:i=id
   ·subst hi;rw[hputs] at h1;cases h1
   ·rw[hput i hi] at h1;exact .inr ⟨i,.inl h1⟩
  ·by_cases hi:i=id
   ·subst hi
    rw[hputs] at h1
    cases h1
    rcases hcase with ⟨rfl,_⟩|⟨hge,_⟩
    ·exact .inr (hownb o)
    ·exact .inl hge
   ·rw[hput i hi] at h1;exact .inr ⟨i,.inr ⟨e',g',h1,he⟩⟩
 have hev:dQ w μ w' (μ.put id (.spare (some (b',0)) (g+1))):=by
  have hstate:w'.os=w.os∧w'.tape=w.tape∧w'.output=w.output:=by
   rcases hcase with ⟨_,hw,_⟩|⟨_,hb⟩
   ·exact⟨hw.os,hw.tape,hw.output⟩
   ·exact⟨hb.os,hb.tape,hb.output⟩
  refine⟨hstate.1,hstate.2.1,hstate.2.2,hsz,?_,?_,?_,fun k o hk ho=>(hown k o ho).resolve_left (by omega)⟩
  ·intro i hi
   by_cases he:i=id
   ·subst he
    exact .inr (.inr ⟨_,g,_,g+1,hid,hputs,Nat.lt_succ_self g⟩)
   ·exact .inl (hput i he)
  ·intro k hk hn
   refine hold k hk ?_
   rintro rfl
   exact hn 0 (hownb 0)
  ·intro k e' c ty fr hk hn hc
   by_cases hkb:k=b
   ·subst hkb
    have he:=hn 0 (hownb 0)
    rw[h0] at hc
    cases hc
    rcases hcase with ⟨rfl,hw,c',fr',rfl,hs⟩|⟨_,hb⟩
    ·exact⟨c',fr',hb',hs,fun o ho=>by omega⟩
    ·exact⟨_,_,(hb.block k hk).trans h0,rfl,fun _ _=>rfl⟩
   ·exact⟨c,fr,(hold k hk hkb).trans hc,rfl,fun _ _=>rfl⟩
 have hfar:∀i k,i≠id→dH μ i k→k≠b:=by
  rintro i k hi hl rfl
  exact hi (h.inj i id k hl (.inr ⟨0,g,hid⟩))
 have hlold:∀i k,dH μ i k→k < w.heap.size:=by
  rintro i k (h1|⟨e,g,h1⟩)
  ·exact h.fit.own k 0 ⟨i,.inl h1⟩
  ·exact h.fit.own k e ⟨i,.inr ⟨e,g,h1,Nat.le_refl _⟩⟩
 have lie:∀i k,dH (μ.put id (.spare (some (b',0)) (g+1))) i k→(i=id∧k=b')∨(i≠id∧dH μ i k):=by
  rintro i k (h1|⟨e',g',h1⟩)
  ·by_cases hi:i=id
   ·subst hi;rw[hputs] at h1;cases h1
   ·rw[hput i hi] at h1;exact .inr ⟨hi,.inl h1⟩
  ·by_cases hi:i=id
   ·subst hi;rw[hputs] at h1;cases h1;exact .inl ⟨rfl,rfl⟩
   ·rw[hput i hi] at h1;exact .inr ⟨hi,.inr ⟨e',g',h1⟩⟩
 have hb'far:∀j,j≠id→¬dH μ j b':=by
  intro j hj hl
  rcases hcase with ⟨rfl,_⟩|⟨hge,_⟩
  ·exact hfar j _ hj hl rfl
  ·have:=hlold j b' hl;omega
 refine⟨hev,?_,?_,?_,?_,?_,?_,?_⟩
 ·intro i
  show _↔i < M.next
  by_cases hi:i=id
  ·subst hi
   rw[hputs]
   exact⟨fun _=>(h.dom i).1 (by rw[hid];simp),fun _=>by simp⟩
  ·rw[hput i hi]
   exact h.dom i
 ·intro i l hl
  rw[aG.get_set] at hl
  split at hl
  ·cases hl
  ·rename_i hi
   obtain⟨b1,c,ty,h1,h2,h3,h4,h5⟩:=h.obj i l hl
   have hlt1:b1 < w.heap.size:=(Array.getElem?_eq_some_iff.1 h2).1
   exact⟨b1,c,ty,(hput i hi).trans h1,(hold b1 hlt1 (hfar i b1 hi (.inl h1))).trans h2,h3,h4,fun i x v hx hv=>(h5 i x v hx hv).evo hev⟩
 ·intro i g' hl
  rw[aG.get_set] at hl
  split at hl
  ·cases hl
  ·rename_i hi
   obtain⟨p,h1,h2⟩:=h.spare i g' hl
   refine⟨p,(hput i hi).trans h1,fun b1 e1 hp=>?_⟩
   obtain⟨c,ty,fr,h3,h4,h5⟩:=h2 b1 e1 hp
   have hlt1:b1 < w.heap.size:=(Array.getElem?_eq_some_iff.1 h3).1
   exact⟨c,ty,fr,(hold b1 hlt1 (hfar i b1 hi (.inr ⟨e1,g',by rw[h1,hp]⟩))).trans h3,h4,h5⟩
 ·intro i j k hi hj
  rcases lie i k hi with ⟨h1,h2⟩|⟨h1,h2⟩<;>rcases lie j k hj with ⟨h3,h4⟩|⟨h3,h4⟩
  ·exact h1.trans h3.symm
  ·exact absurd (h2 ▸ h4) (hb'far j h3)
  ·exact absurd (h4 ▸ h2) (hb'far i h1)
  ·exact h.inj i j k h2 h4
 ·intro k o ho hF
  rcases hown k o ho with h1|h1
  ·have:=h.fit.frm k o hF;omega
  ·exact h.frm k o h1 hF
 ·refine⟨fun k o ho=>?_,fun k o hF=>Nat.lt_of_lt_of_le (h.fit.frm k o hF) hsz⟩
  obtain⟨i,hl⟩:=I0 ho
  rcases lie i k hl with ⟨_,rfl⟩|⟨_,h2⟩
  ·exact (Array.getElem?_eq_some_iff.1 hb').1
  ·exact Nat.lt_of_lt_of_le (hlold i k h2) hsz
 ·intro i gg o vs t hl
  rw[aG.get_set] at hl
  split at hl
  ·rename_i hi
   cases hl
   subst hi
   exact⟨b',hputs,hb',fun _=>.top _⟩
  ·rename_i hi
   obtain⟨b1,h1,h2,h3⟩:=h.raw i gg o vs t hl
   have hlt1:b1 < w.heap.size:=(Array.getElem?_eq_some_iff.1 h2).1
   exact⟨b1,h1.congr (hput i hi),(hold b1 hlt1 (hfar i b1 hi h1.lies)).trans h2,fun i=>(h3 i).evo hev⟩
theorem y7 {P:Program} {τ:Tab} (hτ:TabOK P τ) {t tx e:TypeId} {ti ei xi:TI} (hin:pY P τ t e ti ei) (hsz:ei.size=1) (hxi:aJ τ tx=some xi) {o:Oper} {s x:Operand}
  (ho:o.op=.call {callee:=.builtin .append,args:=#[s,x],argTypes:=#[t,tx]}) {ρ:Operand→AV} {M:aG} {id g n cap:Nat} {c:Array Value} {bs ys:List UInt8} (hS:ρ s=.bsl id g n cap) (hn:n=bs.length) (hM:M.get id=some (pJ g e c)) (hB:kF c bs cap)
  (hf:eG xi.k (ρ x)=true) (hX:iI 1 (ρ x)=some (ys.map gH)) (hb:(n+ys.length)*ei.bytes≤140737488355328) (hlen:n+ys.length≤140737488355328) {Kp:AV→aG→Prop}:
  jD P o ρ M (fun u M'=>∃cap' c',kF c' (bs++ys) cap'∧u=.bsl id (g+1) (n+ys.length) cap'∧M'=M.set id (pJ (g+1) e c')) Kp:=by
 subst hn
 intro μ F w a hg hr next Q' hnext _
 have hs:=hr s (by simp[ho,Op.operands,Call.operands])
 have hx:=hr x (by simp[ho,Op.operands,Call.operands])
 rw[hS] at hs
 obtain⟨b,k1,hb2,_⟩:=hg.raw id _ _ _ _ hM
 have hbm:μ id=some (.spare (some (b,0)) g):=k1
 have hv:a.eval s=.slice (some ⟨b,0,none⟩) bs.length cap:=by
  generalize a.eval s=u at hs
  cases hs with
  |bsl _ _ _ _ _ h1 h=>
   rcases h with h|⟨p,g',h,hgg,hv⟩
   ·rw[hbm] at h;cases h
   ·rw[hbm] at h
    cases h
    exact hv rfl b rfl
 obtain⟨hsy,news,hsrc,hnew⟩:=uC hτ hxi hf hX hx
 obtain⟨ft,dt,zt,HT⟩:=TI.spec hτ hin.tl
 obtain⟨fe,de,ze,HE⟩:=TI.spec hτ hin.el
 have hfi:=HT.fits
 rw[hin.tk] at hfi
 have hdd:dt=.slice e:=by
  cases dt<;>simp[TK.fits] at hfi
  rw[hfi]
 subst hdd
 have hfs:fe.size=1:=by rw[HE.size,hsz]
 have hnl:news.length=ys.length:=by have:=hsrc.newsLen;simpa using this
 have hsrc':Src P fe.size tx (a.eval x) ys.length news w:=by rw[hfs];simpa using hsrc
 have hnews:∀(p:Nat) (z:UInt8),ys[p]? =some z→news[p]? =some (.int .u8 z.toNat):=by
  intro p z hz
  have hp:p < news.length:=by rw[hnl];exact (List.getElem?_eq_some_iff.1 hz).1
  have h1:=hnew p (gH z) news[p] (by rw[rI,List.getElem?_map,hz];rfl) (List.getElem?_eq_getElem hp)
  rw[List.getElem?_eq_getElem hp]
  generalize news[p]=u at h1
  cases h1
  rfl
 have hex:∀v w',(Builtin.append_ #[t,tx] o.type #[a.eval s,a.eval x]).run P w=.ok v w'→(execOp a.eval o).run P w=.ok (.value v) w':=by
  intro v w' h
  simp[execOp,ho,resolve,invoke,builtin,h]
 have hcs:bs.length≤c.size:=by rw[hB.size];exact hB.le
 unfold Oper.wp
 by_cases hroom:bs.length+ys.length≤cap
 ·have hfl:bs.length+news.length≤c.size:=by rw[hnl,hB.size];exact hroom
  have hrun:=run_append_room_src (P:=P) w t tx o.type e fe HT.und HE.info b 0 bs.length cap (a.eval x) ys.length news hsrc' hroom (fun j hj=>by
    rw[hfs,cF hb2,Nat.zero_add,Nat.mul_one,Array.getElem?_eq_getElem (by omega)];rfl) (fun j hj=>by simp[World.frozen?,hb2])
  rw[hfs,Nat.zero_add,Nat.mul_one] at hrun
  obtain⟨hw,c',hc',hs',hget⟩:=gB b news bs.length c e (0,0) w hb2 hfl
  obtain⟨he,hG⟩:=C5 hg hbm hb2 (.inl ⟨rfl,hw,c',(0,0),rfl,hs'⟩) hc'
  rw[hv] at hex
  rw[hex _ _ hrun]
  refine hnext _ _ _ _ _ he hG (.bsl _ _ _ _ _ rfl (.inr ⟨some (b,0),g+1,by simp[Mu.put],Nat.le_refl _,fun _ b1 hb1=>by cases hb1;rfl⟩)) ⟨cap,c',⟨hs'.trans hB.size,by simpa using hroom,?_⟩,rfl,rfl⟩
  intro i z hz
  rw[hget]
  by_cases h1:i < bs.length
  ·rw[if_neg (by omega)]
   rw[List.getElem?_append_left h1] at hz
   exact hB.at_ i z hz
  ·rw[List.getElem?_append_right (by omega)] at hz
   have hlt:=(List.getElem?_eq_some_iff.1 hz).1
   rw[if_pos ⟨by omega,by omega⟩]
   exact hnews _ z hz
 ·have hgrow:cap < bs.length+ys.length:=by omega
  let olds:=c.toList.take bs.length
  have hol:olds.length=bs.length:=by simp[olds];omega
  have hold:(Builtin.firstCells fe.size bs.length (.slice (some ⟨b,0,none⟩) bs.length cap)).run P w.drew=.ok olds.toArray w.drew:=by
   rw[hfs]
   refine run_firstCells_some w.drew 1 bs.length _ _ _ olds (by rw[hol,Nat.mul_one]) (fun j u hu=>?_)
   have hj:olds[j]? =c[j]? :=by
    have:j < bs.length:=by rw[←hol];exact (List.getElem?_eq_some_iff.1 hu).1
    simp only[olds,List.getElem?_take,if_pos this,Array.getElem?_toList]
   rw[hj] at hu
   have:=cF (o:=0+j) hb2
   rw[Addr.add_lit]
   show w.cell? ⟨b,0+j,none⟩=some u
   rw[this,Nat.zero_add]
   exact hu
  have hfit:Builtin.nextslicecap (bs.length+ys.length) cap*fe.bytes≤281474976710656:=by
   rw[HE.bytes]
   exact growslice_fits hgrow hb
  have hrun:=run_append_grow_src (P:=P) w t tx o.type e fe ze HT.und HE.info HE.zero (some ⟨b,0,none⟩) bs.length cap olds hold (a.eval x) ys.length news hsrc' hgrow (by omega) hfit
  have hge:=grownCap_ge w (bs.length+ys.length) cap e
  generalize hcap:grownCap w (bs.length+ys.length) cap e=cap' at hrun hge
  have hzs:ze.cells.size=1:=by
   have:=(bV HE.cells).1
   simp only[Array.length_toList] at this
   rw[this,HE.len,hsz]
  have hc's:((olds++news).toArray++Builtin.zeroCells ze.cells (cap' - (bs.length+ys.length))).size=cap':=by
   simp only[Array.size_append,List.size_toArray,List.length_append,hol,hnl,size_zeroCells,hzs]
   omega
  have hbelow:Below w.heap.size w (w.drew.alloc (.cells ((olds++news).toArray++Builtin.zeroCells ze.cells (cap' - (bs.length+ys.length))) e)):=⟨rfl,rfl,rfl,by simp[World.alloc],fun k hk=>heap_alloc_old w.drew _ hk⟩
  obtain⟨he,hG⟩:=C5 hg hbm hb2 (.inr ⟨Nat.le_refl _,hbelow⟩) (heap_alloc_new w.drew _)
  rw[hv] at hex
  rw[hex _ _ hrun]
  refine hnext _ _ _ _ _ he hG (.bsl _ _ _ _ _ rfl (.inr ⟨some (w.heap.size,0),g+1,by simp[Mu.put],Nat.le_refl _,fun _ b1 hb1=>by cases hb1;rfl⟩)) ⟨cap',_,⟨hc's,by simpa using hge,?_⟩,rfl,rfl⟩
  intro i z hz
  have hi:i < (olds++news).length:=by
   have:=(List.getElem?_eq_some_iff.1 hz).1
   rw[List.length_append] at this ⊢
   omega
  rw[Array.getElem?_append_left (by simpa using hi)]
  simp only[List.getElem?_toArray]
  by_cases h1:i < bs.length
  ·rw[List.getElem?_append_left (by omega)]
   rw[List.getElem?_append_left h1] at hz
   simp only[olds,List.getElem?_take,if_pos h1,Array.getElem?_toList]
   exact hB.at_ i z hz
  ·rw[List.getElem?_append_right (by omega),hol]
   rw[List.getElem?_append_right (by omega)] at hz
   exact hnews _ z hz
theorem L8 {μ:Mu} {F:c8} {M:aG} {w w':World} (h:dY μ F M w) (hb:Below w.heap.size w w') {o:Obj} {vs:Array Value} {t:List (Nat×AV)} {b:Nat} (hnew:w.heap.size≤b)
  (hc:w'.heap[b]? =some o) (hr:∀i,bP μ F w ((aJ t i).getD .top) (vs.getD i undef)):
  dQ w μ w' (μ.put M.next (.spare (some (b,0)) 0))∧dY (μ.put M.next (.spare (some (b,0)) 0)) F (M.push (.raw (some 0) o vs t)) w':=by
 have hn:=lH h
 have hown:∀k o,jG (μ.put M.next (.spare (some (b,0)) 0)) k o→k=b∨jG μ k o:=by
  rintro k o ⟨id,h1|⟨e,g,h1,he⟩⟩
  ·unfold Mu.put at h1
   split at h1
   ·cases h1
   ·exact .inr ⟨id,.inl h1⟩
  ·unfold Mu.put at h1
   split at h1
   ·cases h1;exact .inl rfl
   ·exact .inr ⟨id,.inr ⟨e,g,h1,he⟩⟩
 have hev:dQ w μ w' (μ.put M.next (.spare (some (b,0)) 0)):=dQ.push hb hn fun k o ho hk=>by
  rcases hown k o ho with rfl|ho
  ·omega
  ·exact ho
 refine⟨hev,?_,?_,?_,?_,?_,?_,?_⟩
 ·intro id
  have:=h.dom id
  unfold Mu.put aG.push
  simp only
  split
  ·rename_i e;subst e;simp
  ·rename_i e
   rw[this]
   omega
 ·intro id l' hl
  rw[aG.get_push] at hl
  split at hl
  ·cases hl
  ·rename_i e
   obtain⟨b',c',ty',h1,h2,h3,h4,h5⟩:=h.obj id l' hl
   have hlt:b' < w.heap.size:=(Array.getElem?_eq_some_iff.1 h2).1
   exact⟨b',c',ty',by simp[Mu.put,e,h1],(hb.block b' hlt).trans h2,h3,h4,fun i x v hx hv=>(h5 i x v hx hv).evo hev⟩
 ·intro id g hl
  rw[aG.get_push] at hl
  split at hl
  ·cases hl
  ·rename_i e
   obtain⟨p,h1,h2⟩:=h.spare id g hl
   refine⟨p,by simp[Mu.put,e,h1],fun b' e' hp=>?_⟩
   obtain⟨c',ty',fr,h3,h4,h5⟩:=h2 b' e' hp
   have hlt:b' < w.heap.size:=(Array.getElem?_eq_some_iff.1 h3).1
   exact⟨c',ty',fr,(hb.block b' hlt).trans h3,h4,h5⟩
 ·have lie:∀i k,dH (μ.put M.next (.spare (some (b,0)) 0)) i k→(i=M.next∧k=b)∨dH μ i k:=by
   rintro i k (h1|⟨e,g,h1⟩)
   ·unfold Mu.put at h1
    split at h1
    ·cases h1
    ·exact .inr (.inl h1)
   ·unfold Mu.put at h1
    split at h1
    ·cases h1;exact .inl ⟨by assumption,rfl⟩
    ·exact .inr (.inr ⟨e,g,h1⟩)
  have old:∀i k,dH μ i k→k < w.heap.size:=by
   rintro i k (h1|⟨e,g,h1⟩)
   ·exact h.fit.own k 0 ⟨i,.inl h1⟩
   ·exact h.fit.own k e ⟨i,.inr ⟨e,g,h1,Nat.le_refl _⟩⟩
  intro i j k hi hj
  rcases lie i k hi with ⟨h1,h2⟩|h1<;>rcases lie j k hj with ⟨h3,h4⟩|h3
  ·exact h1.trans h3.symm
  ·have:=old j k h3;omega
  ·have:=old i k h1;omega
  ·exact h.inj i j k h1 h3
 ·intro k o ho hF
  rcases hown k o ho with rfl|ho
  ·have:=h.fit.frm k o hF;omega
  ·exact h.frm k o ho hF
 ·refine⟨fun k o ho=>?_,fun k o hF=>Nat.lt_of_lt_of_le (h.fit.frm k o hF) hb.size⟩
  rcases hown k o ho with rfl|ho
  ·exact (Array.getElem?_eq_some_iff.1 hc).1
  ·exact Nat.lt_of_lt_of_le (h.fit.own k o ho) hb.size
 ·intro id gg o' vs' t' hl
  rw[aG.get_push] at hl
  split at hl
  ·rename_i e
   cases hl
   exact⟨b,by simp[lY,Mu.put,e],hc,fun i=>(hr i).evo hev⟩
  ·rename_i e
   obtain⟨b',h1,h2,h3⟩:=h.raw id gg o' vs' t' hl
   have hlt:b' < w.heap.size:=(Array.getElem?_eq_some_iff.1 h2).1
   exact⟨b',h1.congr (by simp[Mu.put,e]),(hb.block b' hlt).trans h2,fun i=>(h3 i).evo hev⟩
theorem wJ {P:Program} {τ:Tab} (hτ:TabOK P τ) {t tx e:TypeId} {ti ei xi:TI} (hin:pY P τ t e ti ei) (hsz:ei.size=1) (hxi:aJ τ tx=some xi) {o:Oper} {s x:Operand}
  (ho:o.op=.call {callee:=.builtin .append,args:=#[s,x],argTypes:=#[t,tx]}) {ρ:Operand→AV} {M:aG} {sz:Nat} {ys:List UInt8} (hS:ρ s=.sl sz [] .full) (hne:ys≠[])
  (hf:eG xi.k (ρ x)=true) (hX:iI 1 (ρ x)=some (ys.map gH)) (hb:ys.length*ei.bytes≤140737488355328) (hlen:ys.length≤140737488355328) {Kp:AV→aG→Prop}:
  jD P o ρ M (fun u M'=>∃cap' c',kF c' ys cap'∧u=.bsl M.next 0 ys.length cap'∧M'=M.push (pJ 0 e c')) Kp:=by
 intro μ F w a hg hr next Q' hnext _
 have hs:=hr s (by simp[ho,Op.operands,Call.operands])
 have hx:=hr x (by simp[ho,Op.operands,Call.operands])
 rw[hS] at hs
 obtain⟨A,cap,b,off,vals,hv,_,_,_,_,htag⟩:=hs.sl_flat
 have htag':cap=0:=htag
 subst htag'
 obtain⟨hsy,news,hsrc,hnew⟩:=uC hτ hxi hf hX hx
 obtain⟨ft,dt,zt,HT⟩:=TI.spec hτ hin.tl
 obtain⟨fe,de,ze,HE⟩:=TI.spec hτ hin.el
 have hfi:=HT.fits
 rw[hin.tk] at hfi
 have hdd:dt=.slice e:=by
  cases dt<;>simp[TK.fits] at hfi
  rw[hfi]
 subst hdd
 have hfs:fe.size=1:=by rw[HE.size,hsz]
 have hnl:news.length=ys.length:=by have:=hsrc.newsLen;simpa using this
 have hsrc':Src P fe.size tx (a.eval x) ys.length news w:=by rw[hfs];simpa using hsrc
 have hnews:∀(p:Nat) (z:UInt8),ys[p]? =some z→news[p]? =some (.int .u8 z.toNat):=by
  intro p z hz
  have hp:p < news.length:=by rw[hnl];exact (List.getElem?_eq_some_iff.1 hz).1
  have h1:=hnew p (gH z) news[p] (by rw[rI,List.getElem?_map,hz];rfl) (List.getElem?_eq_getElem hp)
  rw[List.getElem?_eq_getElem hp]
  generalize news[p]=u at h1
  cases h1
  rfl
 have hex:∀v w',(Builtin.append_ #[t,tx] o.type #[a.eval s,a.eval x]).run P w=.ok v w'→(execOp a.eval o).run P w=.ok (.value v) w':=by
  intro v w' h
  simp[execOp,ho,resolve,invoke,builtin,h]
 unfold Oper.wp
 have hyl:0 < ys.length:=List.length_pos_iff.2 hne
 have hgrow:0 < 0+ys.length:=by omega
 have hold:(Builtin.firstCells fe.size 0 (.slice A 0 0)).run P w.drew=.ok (([]:List Value)).toArray w.drew:=by
  cases A<;>simp[Builtin.firstCells,loadCells,loadCellsFrom]
 have hfit:Builtin.nextslicecap (0+ys.length) 0*fe.bytes≤281474976710656:=by
  rw[HE.bytes]
  exact growslice_fits hgrow (by simpa using hb)
 have hrun:=run_append_grow_src (P:=P) w t tx o.type e fe ze HT.und HE.info HE.zero A 0 0 [] hold (a.eval x) ys.length news hsrc' hgrow (by omega) hfit
 have hge:=grownCap_ge w (0+ys.length) 0 e
 generalize hcap:grownCap w (0+ys.length) 0 e=cap' at hrun hge
 rw[Nat.zero_add,List.nil_append] at hrun
 rw[Nat.zero_add] at hge
 have hzs:ze.cells.size=1:=by
  have:=(bV HE.cells).1
  simp only[Array.length_toList] at this
  rw[this,HE.len,hsz]
 have hc's:(news.toArray++Builtin.zeroCells ze.cells (cap' - ys.length)).size=cap':=by
  simp only[Array.size_append,List.size_toArray,hnl,size_zeroCells,hzs]
  omega
 have hbelow:Below w.heap.size w (w.drew.alloc (.cells (news.toArray++Builtin.zeroCells ze.cells (cap' - ys.length)) e)):=⟨rfl,rfl,rfl,by simp[World.alloc],fun k hk=>heap_alloc_old w.drew _ hk⟩
 obtain⟨he,hG⟩:=L8 hg hbelow (vs:=#[]) (t:=[]) (Nat.le_refl _) (heap_alloc_new w.drew _) (fun i=>.top _)
 rw[hv] at hex
 rw[hex _ _ hrun]
 refine hnext _ _ _ _ _ he hG (.bsl _ _ _ _ _ rfl (.inr ⟨some (w.heap.size,0),0,by simp[Mu.put],Nat.le_refl _,fun _ b1 hb1=>by cases hb1;rfl⟩)) ⟨cap',_,⟨hc's,hge,?_⟩,rfl,rfl⟩
 intro i z hz
 have hi:i < news.length:=by rw[hnl];exact (List.getElem?_eq_some_iff.1 hz).1
 rw[Array.getElem?_append_left (by simpa using hi)]
 simp only[List.getElem?_toArray]
 exact hnews i z hz
theorem a2l {μ:Mu} {F:c8} {M:aG} {w:World} (hg:dY μ F M w) {id g n cap:Nat} {e:TypeId} {c:Array Value} (hM:M.get id=some (pJ g e c)) {v:Value} (hr:bP μ F w (.bsl id g n cap) v):
  ∃b,μ id=some (.spare (some (b,0)) g)∧w.heap[b]? =some (.cells c e (0,0))∧v=.slice (some ⟨b,0,none⟩) n cap:=by
 obtain⟨b,k1,h2,_⟩:=hg.raw id _ _ _ _ hM
 have h1:μ id=some (.spare (some (b,0)) g):=k1
 refine⟨b,h1,h2,?_⟩
 cases hr with
 |bsl _ _ _ _ _ _ h=>
  rcases h with h|⟨p,g',h,_,hv⟩
  ·rw[h1] at h;cases h
  ·rw[h1] at h
   cases h
   exact hv rfl b rfl
end Go.Ab
namespace Go.Ab
open Go.RowKit Go.Shelf Go.Proofs
section
variable {P:Program} {ρ:Ren}
theorem zJ {μ:Mu} {F:c8} {w:World} {id b:Nat} {vs:Array Value} (hb:μ id=some (.at b)) (h:cN μ F w [.ptr id 0] vs):vs=#[.pointer (some ⟨b,0,none⟩)]:=by
 obtain⟨hs,hr⟩:=h
 have hs':vs.size=1:=hs
 obtain⟨v,rfl⟩:∃v,vs=#[v]:=⟨vs[0],by
  apply Array.ext
  ·simpa using hs'
  ·intro i h1 h2
   have:i=0:=by simp at h2;omega
   subst this
   rfl⟩
 have:=hr 0 (.ptr id 0) v rfl rfl
 cases this with
 |ptr _ _ _ _ _ hv=>rw[hv b hb]
def zK (T:TypeId):c7:=.raw none (.cells #[.pointer none,.slice none 0 0] T (0,0)) #[] []
theorem a3k (L:Lays.n240 P ρ) (X:Builder.X72 P ρ) (hE:jM P (ρ.f 240)) {M:aG} {id:Nat} (hM:M.get id=some (zK (ρ.t 72))):
  aQ P (ρ.f 240) [.ptr id 0] M fun e N=>e=.ret (.tup [])∧N=M.set id (.cells [.ptr id 0,.sl 1 [] .full]):=by
 refine⟨hE,fun μ F w vs hg hv=>?_⟩
 obtain⟨b,hb,hc,_⟩:=hg.raw id _ _ _ _ hM
 have hb':μ id=some (.at b):=hb
 obtain rfl:=zJ hb' hv
 have hcell:w.cell? ⟨b,0,none⟩=some (.pointer none):=by rw[cF hc];rfl
 refine (Any.Builder_copyCheck_fresh L X b w hcell (by simp[World.shape?,hc]) (by simp[World.frozen?,hc])).mono ?_
 rintro e w' ⟨rfl,rfl⟩
 have hset:(w.setCell ⟨b,0,none⟩ (.pointer (some ⟨b,0,none⟩))).heap[b]? =some (.cells #[.pointer (some ⟨b,0,none⟩),.slice none 0 0] (ρ.t 72) (0,0)):=by
  simp only[World.setCell,Array.getElem?_modify,hc]
  simp
 have hw:w6 w b (w.setCell ⟨b,0,none⟩ (.pointer (some ⟨b,0,none⟩))):=⟨rfl,rfl,rfl,by simp[World.setCell],fun k hk=>Below.heap_setCell w _ _ k hk⟩
 obtain⟨he,hG⟩:=lN hg hb' hc hw (l:=[.ptr id 0,.sl 1 [] .full]) hset rfl rfl (by
   intro i v hi
   match i,hi with
   |0,hi=>simp at hi;subst hi;rfl
   |1,hi=>simp at hi;subst hi;rfl
   |i+2,hi=>simp at hi) (by
   intro i x v hx hi
   match i,hx,hi with
   |0,hx,hi=>
    simp at hx hi
    subst hx;subst hi
    exact .ptr _ _ _ rfl (by rw[hb'];simp) (fun b' hb''=>by rw[hb'] at hb'';cases hb'';rfl)
   |1,hx,hi=>
    simp at hx hi
    subst hx;subst hi
    exact wY μ F w (x:=.sl 1 [] .full) rfl
   |i+2,hx,hi=>simp at hx)
 exact⟨μ,_,he,hG,.tup [],.tup _ _ rfl (by simp),rfl,rfl⟩
theorem TJ (L:Lays.n240 P ρ) (X:Builder.X72 P ρ) (hE:jM P (ρ.f 240)) {M:aG} {id:Nat} {x:AV} (hM:M.get id=some (.cells [.ptr id 0,x])):
  aQ P (ρ.f 240) [.ptr id 0] M fun e N=>e=.ret (.tup [])∧N=M:=by
 refine⟨hE,fun μ F w vs hg hv=>?_⟩
 obtain⟨b,c,ty,hb,hc,hs,_,hr⟩:=hg.obj id _ hM
 obtain rfl:=zJ hb hv
 have hlt:0 < c.size:=by rw[hs];simp
 have h0:c[0]? =some c[0]:=Array.getElem?_eq_getElem hlt
 have hp:=hr 0 _ _ rfl h0
 have hcell:w.cell? ⟨b,0,none⟩=some (.pointer (some ⟨b,0,none⟩)):=by
  rw[cF hc,h0]
  cases hp with
  |ptr _ _ _ _ _ hv=>rw[hv b hb]
 refine (Any.Builder_copyCheck_used L X b w hcell).mono ?_
 rintro e w' ⟨rfl,rfl⟩
 exact⟨μ,M,dQ.refl _ _,hg,.tup [],.tup _ _ rfl (by simp),rfl,rfl⟩
theorem a19 {μ:Mu} {F:c8} {M:aG} {w w':World} (h:dY μ F M w) {id g b:Nat} (hid:μ id=some (.spare (some (b,0)) g)) {c:Array Value} {ty:TypeId} {fr fr':Nat×Nat}
  (h0:w.heap[b]? =some (.cells c ty fr)) (hw:w6 w b w') (h1:w'.heap[b]? =some (.cells c ty fr')):dQ w μ w' (μ.put id .dead)∧dY (μ.put id .dead) F (M.drop id) w':=by
 have hlt:id < M.next:=(h.dom id).1 (by rw[hid];simp)
 have hput:∀i,i≠id→(μ.put id .dead) i=μ i:=fun i hi=>by simp[Mu.put,hi]
 have hputs:(μ.put id .dead) id=some .dead:=by simp[Mu.put]
 have hownb:∀o,jG μ b o:=fun o=>⟨id,.inr ⟨0,g,hid,Nat.zero_le _⟩⟩
 have hlies:∀i k,dH (μ.put id .dead) i k→i≠id∧dH μ i k:=by
  rintro i k (h1|⟨e,g,h1⟩)
  ·by_cases hi:i=id
   ·subst hi;rw[hputs] at h1;cases h1
   ·rw[hput i hi] at h1;exact⟨hi,.inl h1⟩
  ·by_cases hi:i=id
   ·subst hi;rw[hputs] at h1;cases h1
   ·rw[hput i hi] at h1;exact⟨hi,.inr ⟨e,g,h1⟩⟩
 have hown:∀k o,jG (μ.put id .dead) k o→jG μ k o:=by
  rintro k o ⟨i,h1|⟨e,g,h1,he⟩⟩
  ·by_cases hi:i=id
   ·subst hi;rw[hputs] at h1;cases h1
   ·rw[hput i hi] at h1;exact⟨i,.inl h1⟩
  ·by_cases hi:i=id
   ·subst hi;rw[hputs] at h1;cases h1
   ·rw[hput i hi] at h1;exact⟨i,.inr ⟨e,g,h1,he⟩⟩
 have hev:dQ w μ w' (μ.put id .dead):=by
  refine⟨hw.os,hw.tape,hw.output,Nat.le_of_eq hw.size.symm,?_,?_,?_,fun k o _ ho=>hown k o ho⟩
  ·intro i hi
   by_cases he:i=id
   ·subst he;exact .inr (.inl hputs)
   ·exact .inl (hput i he)
  ·intro k hk hn
   refine hw.other k ?_
   rintro rfl
   exact hn 0 (hownb 0)
  ·intro k e' c' ty' f' hk hn hc
   by_cases hkb:k=b
   ·subst hkb
    rw[h0] at hc
    cases hc
    exact⟨c,fr',h1,rfl,fun _ _=>rfl⟩
   ·exact⟨c',f',(hw.other k hkb).trans hc,rfl,fun _ _=>rfl⟩
 have hfar:∀i k,i≠id→dH μ i k→k≠b:=by
  rintro i k hi hl rfl
  exact hi (h.inj i id k hl (.inr ⟨0,g,hid⟩))
 refine⟨hev,{dom:=?_,obj:=?_,spare:=?_,inj:=fun i j k hi hj=>h.inj i j k (hlies i k hi).2 (hlies j k hj).2,frm:=fun k o ho=>h.frm k o (hown k o ho),fit:=⟨fun k o ho=>by rw[hw.size];exact h.fit.own k o (hown k o ho),fun k o hF=>by rw[hw.size];exact h.fit.frm k o hF⟩,raw:=?_}⟩
 ·intro i
  show _↔i < M.next
  by_cases hi:i=id
  ·subst hi;rw[hputs];simp[hlt]
  ·rw[hput i hi];exact h.dom i
 ·intro i l hl
  rw[aG.get_drop] at hl
  split at hl
  ·cases hl
  ·rename_i hi
   obtain⟨b1,c1,ty1,a1,a2,a3,a4,a5⟩:=h.obj i l hl
   exact⟨b1,c1,ty1,(hput i hi).trans a1,(hw.other b1 (hfar i b1 hi (.inl a1))).trans a2,a3,a4,fun i x v hx hv=>(a5 i x v hx hv).evo hev⟩
 ·intro i g' hl
  rw[aG.get_drop] at hl
  split at hl
  ·cases hl
  ·rename_i hi
   obtain⟨p,a1,a2⟩:=h.spare i g' hl
   refine⟨p,(hput i hi).trans a1,fun b1 e1 hp=>?_⟩
   obtain⟨c1,ty1,f1,a3,a4,a5⟩:=a2 b1 e1 hp
   exact⟨c1,ty1,f1,(hw.other b1 (hfar i b1 hi (.inr ⟨e1,g',by rw[a1,hp]⟩))).trans a3,a4,a5⟩
 ·intro i gg o vs t hl
  rw[aG.get_drop] at hl
  split at hl
  ·cases hl
  ·rename_i hi
   obtain⟨b1,a1,a2,a3⟩:=h.raw i gg o vs t hl
   exact⟨b1,a1.congr (hput i hi),(hw.other b1 (hfar i b1 hi a1.lies)).trans a2,fun i=>(a3 i).evo hev⟩
theorem NF (L:Lays.n169 P ρ) (X:Builder.Extra P ρ) (b g cap:Nat) (cur:Array Value) (l:List UInt8) (w:World) (hc:w.cell? ⟨b,1,none⟩=some (.slice (some ⟨g,0,none⟩) l.length cap))
  (hg:w.heap[g]? =some (.cells cur (ρ.t 5) (0,0))) (h0:l≠[]) (hcap:l.length≤cap) (hn:l.length≤cur.size) (h63:l.length≤9223372036854775807) (hcell:∀(j:Nat) (x:UInt8),l[j]? =some x→cur[j]? =some (.int .u8 x.toNat)):
  Calls P (ρ.f 169) #[.pointer (some ⟨b,0,none⟩)] w fun e w'=>e=.returned (.string ⟨l.toArray⟩)∧w'=w.drew.freeze ⟨g,0,none⟩ l.length:=by
 have hl0:0 < l.length:=List.length_pos_iff.2 h0
 have c1:w.drew.cell? ⟨b,1,none⟩=some (.slice (some ⟨g,0,none⟩) l.length cap):=hc
 have hSD:(Builtin.unsafeSliceData_ #[(ρ.t 37)] (ρ.t 127) #[.slice (some ⟨g,0,none⟩) l.length cap]).run P w.drew=.ok (.pointer (some ⟨g,0,none⟩)) w.drew:=
  Lib.run_unsafeSliceData_row _ _ _ _ _ _ (by omega)
 have hUS:(Builtin.unsafeString_ #[(ρ.t 127),(ρ.t 3)] (ρ.t 9) #[.pointer (some ⟨g,0,none⟩),.int .i64 l.length]).run P w.drew=.ok (.string ⟨l.toArray⟩) (w.drew.freeze ⟨g,0,none⟩ l.length):=by
  refine Lib.run_unsafeString_row w.drew (ρ.t 127) (ρ.t 3) (ρ.t 9) (ρ.t 5) L.t127 X.cellsByte g cur.size (by have hg':w.drew.heap[g]? =some (.cells cur (ρ.t 5) (0,0)):=hg;simp[World.shape?,hg']) l h0 hn h63 ?_
  intro j x hx
  rw[Addr.add_lit,show w.drew.cell? ⟨g,0+j,none⟩=w.cell? ⟨g,0+j,none⟩ from rfl,cF hg,Nat.zero_add]
  exact hcell j x hx
 have mixed:=L.mixed
 have t72:=L.t72;have a72:=L.a72;have z72:=L.z72;have v72:=L.v72;have u72:=run_underlying L.t72
 have t70:=L.t70;have a70:=L.a70;have z70:=L.z70;have v70:=L.v70;have u70:=run_underlying L.t70
 have t37:=L.t37;have a37:=L.a37;have z37:=L.z37;have v37:=L.v37;have u37:=run_underlying L.t37
 have t127:=L.t127;have a127:=L.a127;have z127:=L.z127;have v127:=L.v127;have u127:=run_underlying L.t127
 have t3:=L.t3;have a3:=L.a3;have z3:=L.z3;have v3:=L.v3;have u3:=run_underlying L.t3
 have t9:=L.t9;have a9:=L.a9;have z9:=L.z9;have v9:=L.v9;have u9:=run_underlying L.t9
 have t5:=X.t5;have a5:=X.a5;have z5:=X.z5;have v5:=X.v5;have u5:=run_underlying X.t5
 go_enter L.f169,Body.n169_ntmps ρ
 go_wp2
 go_region_o
 all_goals (go_wp2;go_ret;exact⟨rfl,rfl⟩)
theorem a38 (L:Lays.n169 P ρ) (X:Builder.Extra P ρ) (hE:jM P (ρ.f 169)) {M:aG} {id k g cap:Nat} {x:AV} {c:Array Value} {bs:List UInt8} (hM:M.get id=some (.cells [x,.bsl k g bs.length cap]))
  (hK:M.get k=some (pJ g (ρ.t 5) c)) (hB:kF c bs cap) (h0:bs≠[]) (h63:bs.length≤9223372036854775807):
  aQ P (ρ.f 169) [.ptr id 0] M fun e N=>e=.ret (.str bs)∧N=M.drop k:=by
 refine⟨hE,fun μ F w vs hg hv=>?_⟩
 obtain⟨b,c0,ty,hb,hc,hs,_,hr⟩:=hg.obj id _ hM
 obtain rfl:=zJ hb hv
 have hlt:1 < c0.size:=by rw[hs];simp
 have h1:c0[1]? =some c0[1]:=Array.getElem?_eq_getElem hlt
 obtain⟨q,k1,k2,k3⟩:=a2l hg hK (hr 1 _ _ rfl h1)
 refine (NF L X b q cap c bs w (by rw[cF hc,h1,k3]) k2 h0 hB.le (by rw[hB.size];exact hB.le) h63 hB.at_).mono ?_
 rintro e w' ⟨rfl,rfl⟩
 have hn:bs.length≠0:=by simpa using h0
 have hf:(w.drew.freeze ⟨q,0,none⟩ bs.length).heap[q]? =some (.cells c (ρ.t 5) (0,0+bs.length)):=by
  have k2':w.drew.heap[q]? =some (.cells c (ρ.t 5) (0,0)):=k2
  unfold World.freeze
  rw[if_neg hn]
  simp only[Array.getElem?_modify,k2']
  simp
 have hw:w6 w q (w.drew.freeze ⟨q,0,none⟩ bs.length):=by
  unfold World.freeze
  rw[if_neg hn]
  refine⟨rfl,rfl,rfl,by simp,fun j hj=>?_⟩
  show (w.heap.modify q _)[j]? =_
  rw[Array.getElem?_modify,if_neg (fun h=>hj h.symm)]
 obtain⟨he,hG⟩:=a19 hg k1 k2 hw hf
 exact⟨_,_,he,hG,.str bs,.str bs,rfl,rfl⟩
end
section
variable {P:Program} {τ:Tab} {ops:Array Oper} {cls:Nat→fQ} {Q:AX→AF→aG→Prop} {ds:List bJ} {ls:List Nat} {i:Nat} {t:List (Nat×AV)} {M:aG}
structure a9n where
 d:Nat
 id:Nat
 g:Nat
 g':Nat
 n:Nat
 cap:Nat
 e:TypeId
 c:Array Value
 ys:List UInt8
def WY:Option c7→Option (Nat×TypeId×Array Value)
 |some (.raw (some g) (.cells c e fr) vs t)=>if fr=(0,0)∧vs.size=0∧t.length=0 then some (g,e,c) else none
 |_=>none
theorem LQ {x:Option c7} {g:Nat} {e:TypeId} {c:Array Value} (h:WY x=some (g,e,c)):x=some (pJ g e c):=by
 unfold WY at h
 split at h
 ·rename_i g' c' e' fr vs t
  split at h
  ·rename_i hh
   obtain⟨rfl,h1,h2⟩:=hh
   cases h
   rw[show vs=#[] from Array.eq_empty_of_size_eq_zero h1,show t=[] from List.length_eq_zero_iff.1 h2]
   rfl
  ·cases h
 ·cases h
def V1 (τ:Tab) (ds:List bJ) (t:List (Nat×AV)) (M:aG) (d:Nat) (ty tx:TypeId) (s y:Operand):Option a9n:=
 match AF.ev ⟨t,ds⟩ s,AF.ev ⟨t,ds⟩ y with
 |.bsl id g n cap,.str ys=>
  match WY (M.get id),aJ τ ty,aJ τ tx with
  |some (g',e,c),some ti,some xi=>
   match ti.k,xi.k with
   |.slice e',.str=>
    match aJ τ e' with
    |some ei=>(match decide (e'=e),decide (ei.size=1),decide (ei.bytes=1) with
     |true,true,true=>some ⟨d,id,g,g',n,cap,e,c,ys⟩
     |_,_,_=>none)
    |none=>none
   |_,_=>none
  |_,_,_=>none
 |_,_=>none
def K0 (τ:Tab) (ops:Array Oper) (cls:Nat→fQ) (ds:List bJ) (i:Nat) (t:List (Nat×AV)) (M:aG):Option a9n:=
 match ops[i]? with
 |some o=>
  match aT ops ⟨t,ds⟩ o,o.dst,n7 (cls i),o.op with
  |some true,some d,true,.call {callee:=.builtin .append,args:=⟨[s,y]⟩,argTypes:=⟨[ty,tx]⟩}=>V1 τ ds t M d ty tx s y
  |_,_,_,_=>none
 |none=>none
theorem a16 (hτ:TabOK P τ) {d id g g' n cap:Nat} {e:TypeId} {c:Array Value} {ys:List UInt8} (hs:K0 τ ops cls ds i t M=some ⟨d,id,g,g',n,cap,e,c,ys⟩) (hgg:g'=g) {bs:List UInt8} (hn:n=bs.length) (hB:kF c bs cap) (hlen:n+ys.length≤140737488355328)
  (h:∀(cap':Nat) (c':Array Value),kF c' (bs++ys) cap'→DW P ops cls Q ds ls ((d,.bsl id (g+1) (n+ys.length) cap')::t) (M.set id (pJ (g+1) e c'))):DW P ops cls Q ds (i::ls) t M:=by
 unfold K0 at hs
 split at hs
 ·rename_i o hi
  split at hs
  ·rename_i d' s y ty tx hw hd hc ho
   unfold V1 at hs
   split at hs
   ·rename_i id' g0 n' cap' ys' hS hY
    split at hs
    ·rename_i g' e' c' ti xi hM' ht hxi
     have hM:=LQ hM'
     split at hs
     ·rename_i e1 hk hk2
      split at hs
      ·rename_i ei he
       split at hs
       ·rename_i q2 q3 q4
        have q2:=of_decide_eq_true q2
        have q3:=of_decide_eq_true q3
        have q4:=of_decide_eq_true q4
        subst q2
        cases hs
        subst hgg
        refine eN hi hw ?_
        refine SC.of_G hc (by intro c hc;rw[ho] at hc;cases hc) ?_
        refine jD.mono (y7 hτ ⟨ht,hk,he,by omega⟩ q3 hxi ho hS hn hM hB (by rw[hk2,hY];rfl) (by rw[hY];rfl) (by rw[q4];omega) hlen) ?_
        rintro u M' ⟨cap',c',h1,rfl,rfl⟩
        have:=h cap' c' h1
        simpa [AF.put,hd] using this
       ·cases hs
      ·cases hs
     ·cases hs
    ·cases hs
   ·cases hs
  ·cases hs
 ·cases hs
def Y6 (τ:Tab) (ds:List bJ) (t:List (Nat×AV)) (d:Nat) (ty tx:TypeId) (s y:Operand):Option (Nat×TypeId×List UInt8):=
 match AF.ev ⟨t,ds⟩ s,AF.ev ⟨t,ds⟩ y with
 |.sl _ [] .full,.str ys=>
  match aJ τ ty,aJ τ tx with
  |some ti,some xi=>
   match ti.k,xi.k with
   |.slice e',.str=>
    match aJ τ e' with
    |some ei=>(match decide (ei.size=1),decide (ei.bytes=1) with
     |true,true=>some (d,e',ys)
     |_,_=>none)
    |none=>none
   |_,_=>none
  |_,_=>none
 |_,_=>none
def K3 (τ:Tab) (ops:Array Oper) (cls:Nat→fQ) (ds:List bJ) (i:Nat) (t:List (Nat×AV)):Option (Nat×TypeId×List UInt8):=
 match ops[i]? with
 |some o=>
  match aT ops ⟨t,ds⟩ o,o.dst,n7 (cls i),o.op with
  |some true,some d,true,.call {callee:=.builtin .append,args:=⟨[s,y]⟩,argTypes:=⟨[ty,tx]⟩}=>Y6 τ ds t d ty tx s y
  |_,_,_,_=>none
 |none=>none
theorem ZV (hτ:TabOK P τ) {d:Nat} {e:TypeId} {ys:List UInt8} (hs:K3 τ ops cls ds i t=some (d,e,ys)) (hne:ys≠[]) (hlen:ys.length≤140737488355328)
  (h:∀(cap':Nat) (c':Array Value),kF c' ys cap'→DW P ops cls Q ds ls ((d,.bsl M.next 0 ys.length cap')::t) (M.push (pJ 0 e c'))):DW P ops cls Q ds (i::ls) t M:=by
 unfold K3 at hs
 split at hs
 ·rename_i o hi
  split at hs
  ·rename_i d' s y ty tx hw hd hc ho
   unfold Y6 at hs
   split at hs
   ·rename_i sz ys' hS hY
    split at hs
    ·rename_i ti xi ht hxi
     split at hs
     ·rename_i e1 hk hk2
      split at hs
      ·rename_i ei he
       split at hs
       ·rename_i q3 q4
        have q3:=of_decide_eq_true q3
        have q4:=of_decide_eq_true q4
        cases hs
        refine eN hi hw ?_
        refine SC.of_G hc (by intro c hc;rw[ho] at hc;cases hc) ?_
        refine jD.mono (wJ hτ ⟨ht,hk,he,by omega⟩ q3 hxi ho hS hne (by rw[hk2,hY];rfl) (by rw[hY];rfl) (by rw[q4];omega) hlen) ?_
        rintro u M' ⟨cap',c',h1,rfl,rfl⟩
        have:=h cap' c' h1
        simpa [AF.put,hd] using this
       ·cases hs
      ·cases hs
     ·cases hs
    ·cases hs
   ·cases hs
  ·cases hs
 ·cases hs
def OQ (ops:Array Oper) (cls:Nat→fQ) (ds:List bJ) (i:Nat) (t:List (Nat×AV)):Option (Nat×TypeId):=
 match ops[i]? with
 |some o=>
  match aT ops ⟨t,ds⟩ o,o.dst,n7 (cls i),o.op with
  |some true,some d,true,.alloc ty=>some (d,ty)
  |_,_,_,_=>none
 |none=>none
theorem MH {d:Nat} {ty:TypeId} (hs:OQ ops cls ds i t=some (d,ty)) {z:Value} (hz:∀w,(zeroValue ty).run P w=.ok z w) (h:DW P ops cls Q ds ls ((d,.ptr M.next 0)::t) (M.push (.raw none (.cells z.cells ty (0,0)) #[] []))):DW P ops cls Q ds (i::ls) t M:=by
 unfold OQ at hs
 split at hs
 ·rename_i o hi
  split at hs
  ·rename_i d' ty' hw hd hc ho
   cases hs
   refine lE hi hw hd hc ?_ h
   rw[ho]
   intro μ F w ρc o hg ho ht hr
   have hb:=fL w (.cells z.cells ty)
   have hnew:({w with heap:=w.heap.push (.cells z.cells ty)}:World).heap[w.heap.size]? =some (.cells z.cells ty (0,0)):=by simp
   obtain⟨he,hG⟩:=jC hg hb (vs:=#[]) (t:=[]) (Nat.le_refl _) hnew (fun i=>.top _)
   refine⟨_,_,.pointer (some ⟨w.heap.size,0,none⟩),_,?_,.inl rfl,he,hG,?_⟩
   ·simp[execOp,ho,Instr.alloc,newVar,newRow,hz]
   ·exact .ptr _ _ _ rfl (by simp[Mu.put]) (fun b hb=>by simp[Mu.put] at hb;subst hb;rfl)
  ·cases hs
 ·cases hs
end
end Go.Ab
namespace Go.Proofs.YteliblifgdofgaaGreatDoor
open Go.Ab Go.Shelf
def ZE (g n cap:Nat) (c:Array Value):aG:=⟨2,[(0,.cells [.ptr 0 0,.bsl 1 g n cap]),(1,pJ g 5 c)]⟩
def a64:aG:=⟨1,[(0,zK 118)]⟩
theorem aAb (s:aD) (hs:s≠[]) (hl:s.length < 1000000000):aQ Tryz.prog 57 [.ptr 0 0,.str s] a64 (fun e N=>∃cap c,kF c s cap∧e=.ret (.tup [.int .i64 (s.length:Int),.nilIface])∧(ZE 0 s.length cap c).le N):=by
 refine aC aF Tryz.func57 rfl (by decide) (by simp[Tryz.f57]) ?_
 unfold a64
 repeat' (first|refine zA rfl ?_|refine aA ?_|refine aL rfl ?_)
 refine bS rfl rfl (a3k EP TT.toX72 ⟨_,_,Tryz.func96,rfl,by decide⟩ rfl) ?_ (fun u M' h=>by cases h.1)
 rintro u N ⟨e,rfl⟩
 cases e
 repeat' (first|refine ZV aF rfl hs (by omega) ?_|refine zA rfl ?_|refine aA ?_|refine aL rfl ?_)
 intro cap c hB
 repeat' (first|refine zA rfl ?_|refine aA ?_|refine aL rfl ?_)
 exact⟨rfl,_,rfl,cap,c,hB,rfl,aG.le_cons rfl (aG.le_cons rfl (aG.le_nil rfl))⟩
theorem a7l (s bs:aD) (g cap:Nat) (c:Array Value) (hB:kF c bs cap) (hl:bs.length+s.length < 1000000000):aQ Tryz.prog 57 [.ptr 0 0,.str s] (ZE g bs.length cap c) (fun e N=>∃cap c,kF c (bs++s) cap∧e=.ret (.tup [.int .i64 (s.length:Int),.nilIface])∧(ZE (g+1) (bs++s).length cap c).le N):=by
 refine aC aF Tryz.func57 rfl (by decide) (by simp[Tryz.f57]) ?_
 unfold ZE
 repeat' (first|refine zA rfl ?_|refine aA ?_|refine aL rfl ?_)
 refine bS rfl rfl (TJ EP TT.toX72 ⟨_,_,Tryz.func96,rfl,by decide⟩ rfl) ?_ (fun u M' h=>by cases h.1)
 rintro u N ⟨e,rfl⟩
 cases e
 repeat' (first|refine a16 aF rfl rfl rfl hB (by omega) ?_|refine zA rfl ?_|refine aA ?_|refine aL rfl ?_)
 intro cap c hB
 repeat' (first|refine zA rfl ?_|refine aA ?_|refine aL rfl ?_)
 rw[←List.length_append]
 exact⟨rfl,_,rfl,cap,c,hB,rfl,aG.le_cons rfl (aG.le_cons rfl (aG.le_nil rfl))⟩
theorem a7b {M:aG} {id:Nat} (hM:M.get id=some (zK 118)) (hlt:id < M.next) (s:aD) (hs:s≠[]) (hl:s.length < 1000000000):aQ Tryz.prog 57 [.ptr id 0,.str s] M fun e N=>
  ∃cap c,kF c s cap∧e=.ret (.tup [.int .i64 (s.length:Int),.nilIface])∧N=(M.push (pJ 0 5 c)).set id (.cells [.ptr id 0,.bsl M.next 0 s.length cap]):=by
 refine aQ.frame [id] (by simp) (by simpa using hlt) (N0:=a64) rfl ?_ (aAb s hs hl) ⟨kP.ptr rfl,kP.closed aP,trivial⟩ ?_
 ·intro k o1 hk
  have hk':(if k=0 then some (zK 118) else none)=some o1:=hk
  split at hk'
  ·rename_i h0
   subst h0
   cases hk'
   exact⟨id,_,rfl,hM,rfl,rfl,rfl,rfl,rfl⟩
  ·cases hk'
 ·rintro e M1 ⟨cap,c,hB,rfl,hn,hle⟩
  refine⟨.ret (.tup [.int .i64 (s.length:Int),.nilIface]),_,eP.closed (aS (aV aB jL)),⟨?_,?_⟩,cap,c,hB,rfl,rfl⟩
  ·show M.next+1=M.next+(M1.next - 1)
   rw[←hn]
   rfl
  ·intro i o hi
   rw[aG.get_set] at hi
   split at hi
   ·rename_i h0
    cases hi
    refine .inl ⟨0,_,.inl (by rw[h0];rfl),hle 0 _ rfl,?_⟩
    exact⟨eP.ptr,eP.bsl,trivial⟩
   ·rename_i h0
    rw[aG.get_push] at hi
    split at hi
    ·rename_i h1
     cases hi
     exact .inl ⟨1,_,.inr ⟨Nat.le_refl _,h1⟩,hle 1 _ rfl,rfl,rfl,rfl,rfl,rfl⟩
    ·exact .inr ⟨by simpa using h0,hi⟩
theorem a2i {M:aG} {id k g cap:Nat} {c:Array Value} {bs:aD} (hM:M.get id=some (.cells [.ptr id 0,.bsl k g bs.length cap])) (hK:M.get k=some (pJ g 5 c)) (hne:id≠k) (hlt:id < M.next) (hltk:k < M.next)
  (hB:kF c bs cap) (s:aD) (hl:bs.length+s.length < 1000000000):aQ Tryz.prog 57 [.ptr id 0,.str s] M fun e N=>
  ∃cap c,kF c (bs++s) cap∧e=.ret (.tup [.int .i64 (s.length:Int),.nilIface])∧N=(M.set id (.cells [.ptr id 0,.bsl k (g+1) (bs++s).length cap])).set k (pJ (g+1) 5 c):=by
 refine aQ.frame [id,k] (by simp[hne]) (by intro i hi;simp at hi;rcases hi with rfl|rfl<;>assumption) (N0:=ZE g bs.length cap c) rfl ?_ (a7l s bs g cap c hB hl) ⟨kP.ptr rfl,kP.closed aP,trivial⟩ ?_
 ·intro j o1 hj
  have hj':(if j=0 then some (c7.cells [.ptr 0 0,.bsl 1 g bs.length cap]) else if j=1 then some (pJ g 5 c) else none)=some o1:=hj
  split at hj'
  ·rename_i h0
   subst h0
   cases hj'
   exact⟨id,_,rfl,hM,kP.ptr rfl,kP.bsl rfl,trivial⟩
  ·split at hj'
   ·rename_i h0
    subst h0
    cases hj'
    exact⟨k,_,rfl,hK,rfl,rfl,rfl,rfl,rfl⟩
   ·cases hj'
 ·rintro e M1 ⟨cap,c,hB,rfl,hn,hle⟩
  refine⟨.ret (.tup [.int .i64 (s.length:Int),.nilIface]),_,eP.closed (aS (aV aB jL)),⟨?_,?_⟩,cap,c,hB,rfl,rfl⟩
  ·show M.next=M.next+(M1.next - 2)
   rw[←hn]
   rfl
  ·intro i o hi
   rw[aG.get_set] at hi
   split at hi
   ·rename_i h0
    cases hi
    exact .inl ⟨1,_,.inl (by rw[h0];rfl),hle 1 _ rfl,rfl,rfl,rfl,rfl,rfl⟩
   ·rename_i h0
    rw[aG.get_set] at hi
    split at hi
    ·rename_i h1
     cases hi
     refine .inl ⟨0,_,.inl (by rw[h1];rfl),hle 0 _ rfl,?_⟩
     exact⟨eP.ptr,eP.bsl,trivial⟩
    ·rename_i h1
     exact .inr ⟨by simp;exact⟨h1,h0⟩,hi⟩
def F7 (k g n cap:Nat) (c:Array Value):aG:=⟨k+1,[(0,.cells [.ptr 0 0,.bsl k g n cap]),(k,pJ g 5 c)]⟩
def XY (k:Nat):aG:=⟨k,[(0,zK 118)]⟩
def RG (k:Nat) (bs:aD) (N:aG):Prop:=(bs=[]∧N=XY k)∨(bs≠[]∧∃g cap c,kF c bs cap∧N=F7 k g bs.length cap c)
theorem H3 {k g n cap:Nat} {c:Array Value} (hk:0 < k):(F7 k g n cap c).get k=some (pJ g 5 c):=by
 simp[F7,aG.get,aJ]
 omega
theorem zO {k:Nat} (hk:0 < k) {bs s:aD} {N:aG} (hN:RG k bs N) (hs:s≠[]) (hl:bs.length+s.length < 1000000000):
  aQ Tryz.prog 57 [.ptr 0 0,.str s] N fun e N'=>e=.ret (.tup [.int .i64 (s.length:Int),.nilIface])∧∃N2,RG k (bs++s) N2∧N2.le N':=by
 rcases hN with ⟨rfl,rfl⟩|⟨_,g,cap,c,hB,rfl⟩
 ·refine (a7b (M:=XY k) (id:=0) rfl hk s hs (by omega)).mono ?_
  rintro e N' ⟨cap,c,hB,rfl,rfl⟩
  refine⟨rfl,F7 k 0 ([]++s).length cap c,.inr ⟨hs,0,cap,c,hB,rfl⟩,rfl,?_⟩
  intro i o hi
  rw[aG.get_set]
  simp[F7,aG.get,aJ] at hi
  split at hi
  ·rename_i h0
   rw[if_pos h0]
   exact hi
  ·rename_i h0
   rw[if_neg h0,aG.get_push]
   split at hi
   ·rename_i h1
    rw[if_pos (show i=(XY k).next from h1)]
    exact hi
   ·cases hi
 ·refine (a2i (M:=F7 k g bs.length cap c) (id:=0) (k:=k) rfl (H3 hk) (by omega) (Nat.succ_pos _) (Nat.lt_succ_self _) hB s hl).mono ?_
  rintro e N' ⟨cap,c,hB,rfl,rfl⟩
  refine⟨rfl,F7 k (g+1) (bs++s).length cap c,.inr ⟨by simp[hs],g+1,cap,c,hB,rfl⟩,rfl,?_⟩
  intro i o hi
  rw[aG.get_set]
  simp only[F7,aG.get,aJ] at hi
  split at hi
  ·rename_i h0
   rw[if_neg (by omega),aG.get_set,if_pos h0]
   exact hi
  ·split at hi
   ·rename_i h0
    rw[if_pos h0]
    exact hi
   ·cases hi
theorem a5w {M:aG} {id k g cap:Nat} {c:Array Value} {bs:aD} {x:AV} (hM:M.get id=some (.cells [x,.bsl k g bs.length cap])) (hK:M.get k=some (pJ g 5 c)) (hB:kF c bs cap) (h0:bs≠[]) (hl:bs.length < 1000000000):
  aQ Tryz.prog 59 [.ptr id 0] M fun e N=>e=.ret (.str bs)∧N=M.drop k:=
 a38 wZ TT ⟨_,_,Tryz.func59,rfl,by decide⟩ hM hK hB h0 (by omega)
theorem PU {k:Nat} (hk:0 < k) {bs:aD} {N:aG} (hN:RG k bs N) (h0:bs≠[]) (hl:bs.length < 1000000000):aQ Tryz.prog 59 [.ptr 0 0] N fun e N'=>e=.ret (.str bs)∧N'.next=N.next:=by
 rcases hN with ⟨rfl,rfl⟩|⟨_,g,cap,c,hB,rfl⟩
 ·exact absurd rfl h0
 ·refine (a5w (M:=F7 k g bs.length cap c) (id:=0) rfl (H3 hk) hB h0 hl).mono ?_
  rintro e N' ⟨rfl,rfl⟩
  exact⟨rfl,rfl⟩
end Go.Proofs.YteliblifgdofgaaGreatDoor
namespace Go.Proofs.YteliblifgdofgaaGreatDoor
open Go.Ab
def jI (m:Mt):List Int:=[m.size,m.mode,(m.ch.length:Int)]++m.ch
def eR (l:List Int):aD:=(l.map fun n=>gN n.toNat).flatten
def yP (m:Mt):aD×Int:=if pT m=true then (eR (jI m),0) else ([],1)
def cL (m:Mt) (no:Bool):aD×Int:=if no=true then ([0],0) else if (yP m).2=0 then (1::(yP m).1,0) else ([],(yP m).2)
def FK (x:aD×Int):AV:=.tup [.str x.1,.int .i64 x.2]
theorem dP (x:aD×Int):aN (FK x):=aS (aV aP aB)
theorem BJ {l:List Int} {i:Nat} {x:Int} (h:l.take (i+1)=l.take i++[x]):eR (l.take (i+1))=eR (l.take i)++gN x.toNat:=by
 unfold eR
 rw[h,List.map_append,List.flatten_append]
 simp
theorem i8 (n:Nat):(gN n).length≤5:=by
 unfold gN nb HJ
 rw[List.length_cons]
 have:=(List.dropWhile_sublist (fun b:UInt8=>b==0) (l:=(KB n).take 4)).length_le
 rw[List.length_take] at this
 omega
theorem lJ (l:List Int):(eR l).length≤5*l.length:=by
 unfold eR
 induction l with
 |nil=>simp
 |cons x r ih=>
  have:=i8 x.toNat
  simp at ih ⊢
  omega
theorem UZ {m:Mt} (h:pT m=true):∀x,x∈jI m→0≤x∧x≤4294967295:=by
 unfold pT UY at h
 simp at h
 obtain⟨h1,⟨⟨h2,h3⟩,h4⟩,h5⟩:=h
 intro x hx
 unfold jI at hx
 simp at hx
 rcases hx with rfl|rfl|rfl|hx
 ·omega
 ·omega
 ·omega
 ·exact h1 x hx
theorem P9 {m:Mt} (h:pT m=true):(jI m).length≤19:=by
 unfold pT UY at h
 simp at h
 unfold jI
 simp
 omega
theorem a0d (m:Mt) (hl:m.ch.length < 1000000):aO Tryz.prog 145 [m.av] (FK (yP m)):=by
 refine aU (aX (lT m)) (dP _) ?_
 refine aC aF Tryz.func145 rfl (by decide) (by simp[Tryz.f145]) ?_
 have lc:=bA (fun n=>AV.int .i64 n) m.ch
 have k1:=MK m hl
 unfold yP
 cases h:pT m
 ·rw[h] at k1
  rw[if_neg (by simp)]
  repeat' (first|refine zA rfl ?_|refine aA ?_|refine aL rfl ?_|refine aH rfl k1 ?_)
  exact⟨rfl,_,rfl,_,rfl,aI.of_closed (dP ([],1))⟩
 ·rw[h] at k1
  rw[if_pos rfl]
  have hin:=UZ h
  have hlen:=P9 h
  repeat' (first|refine MH rfl wZ.v72 ?_|refine zI rfl lc ?_|refine zA rfl ?_|refine aA ?_|refine aL rfl ?_|refine aH rfl k1 ?_|refine zR rfl ?_|refine zQ rfl ?_)
  have hl3:((([AV.int .i64 m.size,AV.int .i64 m.mode,AV.int .i64 (m.ch.length:Int)]++m.ch.map fun n=>AV.int .i64 n).length:Nat):Int)=((jI m).length:Int):=by simp[jI]
  rw[hl3]
  have hc0:∀i,0 < i→eR ((jI m).take i)≠[]:=by
   intro i hi
   obtain⟨j,rfl⟩:∃j,i=j+1:=⟨i - 1,by omega⟩
   unfold eR jI gN
   simp
  refine bC (jI m).length (fun i f N=>RG 2 (eR ((jI m).take i)) N∧f=⟨[(4,.ptr 0 0),(22,iA (jI m) .none),(23,.int .i64 ((jI m).length:Int)),(24,.int .i64 (i:Int))],[]⟩) (Nat.zero_le _) ⟨.inl ⟨rfl,rfl⟩,rfl⟩ (aR.le ?_ (aG.le_cons rfl (aG.le_nil rfl))) ?_
  ·have h22:∀t,Sub (.sl 1 ([AV.int .i64 m.size,AV.int .i64 m.mode,AV.int .i64 (m.ch.length:Int)]++m.ch.map fun n=>AV.int .i64 n) t) (iA (jI m) .none):=by
    intro t
    unfold iA jI
    rw[List.map_append]
    exact Sub.untag
   repeat' (first|exact AF.le_nil rfl|refine AF.le_cons rfl ?_|refine AF.le_sub (h22 _) ?_)
  rintro i f N hi ⟨hN,rfl⟩
  by_cases h1:i < (jI m).length
  ·have d1:decide ((i:Int) < ((jI m).length:Int))=true:=by simp;omega
   have hx:(jI m)[i]? =some (jI m)[i]:=List.getElem?_eq_getElem h1
   have fi:=aZ (i:=i) (by omega)
   have ht:=bM hx
   have hm:=hin _ (List.getElem_mem h1)
   generalize (jI m)[i]=x at hx ht hm
   have kx:=m6 (m:=x.toNat) (by omega)
   rw[show ((x.toNat:Nat):Int)=x by omega] at kx
   have lx:=i8 x.toNat
   have lc2:=lJ ((jI m).take i)
   rw[List.length_take] at lc2
   unfold iA
   repeat' (first|refine zB rfl d1 ?_|refine zA rfl ?_|refine aA ?_|refine aL rfl ?_|refine aH rfl kx ?_|refine zX rfl (fB hx) ?_)
   refine bS rfl rfl (zO (by decide) hN (by simp[gN]) (by omega)) ?_ (fun u M' h=>by cases h.1)
   rintro u N' ⟨e,N2,hN2,hle⟩
   cases e
   repeat' (first|refine zI rfl fi ?_|refine zA rfl ?_|refine aA ?_|refine aL rfl ?_)
   refine⟨h1,_,_,⟨?_,rfl⟩,aR.le ?_ hle⟩
   ·rw[BJ ht]
    exact hN2
   ·skip
    repeat (refine AF.le_cons rfl ?_)
    exact AF.le_nil rfl
  ·have d1:decide ((i:Int) < ((jI m).length:Int))=false:=by simp;omega
   obtain rfl:i=(jI m).length:=by omega
   rw[List.take_length] at hN
   have lc2:=lJ (jI m)
   repeat' (first|refine zB rfl d1 ?_|refine aA ?_|refine aL rfl ?_)
   refine bS rfl rfl (PU (by decide) hN ?_ (by omega)) ?_ (fun u M' h=>by cases h.1)
   ·have:=hc0 (jI m).length (by unfold jI;simp)
    rw[List.take_length] at this
    exact this
   rintro u N' ⟨e,hn⟩
   cases e
   repeat' (first|refine zA rfl ?_|refine aA ?_|refine aL rfl ?_)
   exact⟨rfl,_,rfl,_,rfl,aI.of_closed (dP (eR (jI m),0))⟩
theorem HR (m:Mt) (no:Bool) (hl:m.ch.length < 1000000):aO Tryz.prog 97 [m.av,.bool no] (FK (cL m no)):=by
 refine aU (aV (lT m) aK) (dP _) ?_
 refine aC aF Tryz.func97 rfl (by decide) (by simp[Tryz.f97]) ?_
 have k1:=a0d m hl
 unfold cL
 cases no
 ·unfold yP at k1 ⊢
  cases h:pT m
  ·rw[h,if_neg (by simp)] at k1
   rw[if_neg (by simp),if_neg (by simp)]
   repeat' (first|refine zA rfl ?_|refine aA ?_|refine aL rfl ?_|refine aH rfl k1 ?_)
   exact⟨rfl,_,rfl,_,rfl,aI.of_closed (dP ([],1))⟩
  ·rw[h,if_pos rfl] at k1
   rw[if_neg (by simp),if_pos rfl]
   have lb:=lJ (jI m)
   have lm:=P9 h
   have hcat:[1].length+(eR (jI m)).length≤9223372036854775807∧[1]++eR (jI m)=1::eR (jI m):=⟨by simp;omega,rfl⟩
   repeat' (first|refine zA rfl ?_|refine aA ?_|refine aL rfl ?_|refine aH rfl k1 ?_|refine WC rfl (hcat) ?_)
   exact⟨rfl,_,rfl,_,rfl,aI.of_closed (dP (1::eR (jI m),0))⟩
 ·rw[if_pos rfl]
  repeat' (first|refine zA rfl ?_|refine aA ?_|refine aL rfl ?_)
  exact⟨rfl,_,rfl,_,rfl,aI.of_closed (dP ([0],0))⟩
def GA (b:Bool):eE:=if b=true then .full else .none
def r7 {α:Type} (l:List α) (p:α→Bool):Int:=if l.findIdx p < l.length then (l.findIdx p:Int) else -1
theorem lQ {α:Type} {l:List α} {p:α→Bool} (h:∀(j:Nat) x,l[j]? =some x→p x=false):r7 l p=-1:=by
 unfold r7
 rw[if_neg]
 intro hl
 have h1:=List.findIdx_getElem (w:=hl)
 rw[h _ _ (List.getElem?_eq_getElem hl)] at h1
 cases h1
theorem rO {α:Type} {l:List α} {p:α→Bool} {i:Nat} {x:α} (h:∀(j:Nat) y,j < i→l[j]? =some y→p y=false) (hx:l[i]? =some x) (hp:p x=true):r7 l p=i:=by
 obtain⟨hi,rfl⟩:=List.getElem?_eq_some_iff.1 hx
 have h1:l.findIdx p=i:=by
  rw[List.findIdx_eq hi]
  refine⟨hp,fun j hj=>?_⟩
  have:=h j l[j] hj (List.getElem?_eq_getElem (by omega))
  simpa using this
 unfold r7
 rw[h1,if_pos hi]
theorem slL {sz:Nat} {xs ys:List AV} {t:eE} (hx:∀x,x∈xs→x.cells.length=sz) (hy:∀y,y∈ys→y.cells.length=sz) (hl:xs.length=ys.length) (h:∀(i:Nat) (x y:AV) (j:Nat) (a b:AV),xs[i]? =some x→ys[i]? =some y→x.cells[j]? =some a→y.cells[j]? =some b→Ab.Sub a b):Ab.Sub (.sl sz xs t) (.sl sz ys t):=by
 intro μ F w v hr
 cases hr with
 |sl _ _ _ A cap ad vals hsz hcap hA hone hcell hrep htag=>
  have get:∀(i:Nat) (y:AV) (j:Nat) (b:AV),ys[i]? =some y→y.cells[j]? =some b→∃x a,xs[i]? =some x∧x.cells[j]? =some a:=by
   intro i y j b h1 h2
   have hi:i < xs.length:=by rw[hl];exact (List.getElem?_eq_some_iff.1 h1).1
   have hj:j < sz:=by rw[←hy y (List.mem_of_getElem? h1)];exact (List.getElem?_eq_some_iff.1 h2).1
   have hm:=hx xs[i] (List.getElem_mem hi)
   exact⟨xs[i],_,List.getElem?_eq_getElem hi,List.getElem?_eq_getElem (by rw[hm];exact hj)⟩
  rw[hl] at hcap hA htag ⊢
  refine .sl sz ys t A cap ad vals hy hcap hA ?_ ?_ ?_ htag
  ·intro i y j b h1 h2
   obtain⟨x,a,h3,h4⟩:=get i y j b h1 h2
   exact hone i x j a h3 h4
  ·intro i y j b h1 h2
   obtain⟨x,a,h3,h4⟩:=get i y j b h1 h2
   exact hcell i x j a h3 h4
  ·intro i y j b h1 h2
   obtain⟨x,a,h3,h4⟩:=get i y j b h1 h2
   exact h i x y j a b h3 h1 h4 h2 μ F w _ (hrep i x j a h3 h4)
end Go.Proofs.YteliblifgdofgaaGreatDoor
