/- Parts of the proof, one behind the other. No further condition. -/
import Derived.Test.YteliblifgdofgaaGreatDoorK01
import Derived.Deep.AppendSrc
set_option linter.unusedVariables false
set_option linter.unusedSimpArgs false
set_option maxRecDepth 100000
set_option maxHeartbeats 8000000
namespace Go.Ab
open Go.RowKit
def aG.push (M:aG) (o:c7):aG:=⟨M.next+1,(M.next,o)::M.objs⟩
def aG.set (M:aG) (id:Nat) (o:c7):aG:=⟨M.next,(id,o)::M.objs⟩
theorem aG.get_push (M:aG) (o:c7) (i:Nat):(M.push o).get i=if i=M.next then some o else M.get i:=by
 simp[aG.get,aG.push,aJ]
theorem aG.get_set (M:aG) (id:Nat) (o:c7) (i:Nat):(M.set id o).get i=if i=id then some o else M.get i:=by
 simp[aG.get,aG.set,aJ]
def b8 (xs:List AV):List AV:=xs.flatMap AV.cells
theorem bZ {xs:List AV} {sz:Nat} (h:∀x,x∈xs→x.cells.length=sz):(b8 xs).length=xs.length*sz:=by
 induction xs with
 |nil=>simp[b8]
 |cons x r ih=>
  have h1:=h x List.mem_cons_self
  have h2:=ih fun y hy=>h y (List.mem_cons_of_mem _ hy)
  simp only[b8,List.flatMap_cons,List.length_append,h1,List.length_cons] at*
  rw[h2,Nat.succ_mul,Nat.add_comm]
theorem nX {xs:List AV} {sz:Nat} (h:∀x,x∈xs→x.cells.length=sz):∀{i:Nat} {x:AV} {j:Nat} {c:AV},xs[i]? =some x→x.cells[j]? =some c→(b8 xs)[i*sz+j]? =some c:=by
 induction xs with
 |nil=>intro i x j c hx;cases i<;>cases hx
 |cons y r ih=>
  intro i x j c hx hc
  have h1:=h y List.mem_cons_self
  simp only[b8,List.flatMap_cons]
  cases i with
  |zero=>
   simp at hx
   subst hx
   rw[Nat.zero_mul,Nat.zero_add,List.getElem?_append_left (List.getElem?_eq_some_iff.1 hc).1]
   exact hc
  |succ i=>
   have:=ih (fun z hz=>h z (List.mem_cons_of_mem _ hz)) (i:=i) (by simpa using hx) hc
   rw[List.getElem?_append_right (by rw[h1,Nat.succ_mul];omega),h1]
   simp only[b8] at this
   rw[←this]
   congr 1
   rw[Nat.succ_mul]
   omega
theorem VZ {xs:List AV} {sz:Nat} (h:∀x,x∈xs→x.cells.length=sz):∀{p:Nat} {c:AV},(b8 xs)[p]? =some c→∃(i:Nat) (x:AV) (j:Nat),p=i*sz+j∧xs[i]? =some x∧x.cells[j]? =some c:=by
 induction xs with
 |nil=>intro p c hc;simp[b8] at hc
 |cons y r ih=>
  intro p c hc
  have h1:=h y List.mem_cons_self
  simp only[b8,List.flatMap_cons] at hc
  by_cases hp:p < y.cells.length
  ·rw[List.getElem?_append_left hp] at hc
   exact⟨0,y,p,by omega,rfl,hc⟩
  ·rw[List.getElem?_append_right (by omega)] at hc
   obtain⟨i,x,j,e,hx,hj⟩:=ih (fun z hz=>h z (List.mem_cons_of_mem _ hz)) (by simpa [b8] using hc)
   exact⟨i+1,x,j,by rw[Nat.succ_mul];omega,by simpa using hx,hj⟩
structure At (μ:Mu) (F:c8) (w:World) (b o:Nat) (c:AV) (v:Value):Prop where
 one:v.oneCell'=true
 cell:w.cell? ⟨b,o,none⟩=some v
 free:iO μ F b o
 rep:bP μ F w c v
theorem bP.sl_flat {μ:Mu} {F:c8} {w:World} {sz:Nat} {xs:List AV} {t:eE} {v:Value} (h:bP μ F w (.sl sz xs t) v):
  ∃(A:Option Addr) (cap b o:Nat) (vals:Nat→Value),v=.slice A xs.length cap∧(∀x,x∈xs→x.cells.length=sz)∧xs.length≤cap∧(0 < xs.length→A=some ⟨b,o,none⟩)∧
   (∀(p:Nat) (c:AV),(b8 xs)[p]? =some c→At μ F w b (o+p) c (vals p))∧mS μ w A xs.length cap sz t:=by
 obtain⟨A,cap,ad,vals,rfl,hs,hcap,hA,hone,hcell,hrep,htag⟩:=h.sl_inv
 refine⟨A,cap,ad.block,ad.off,vals,rfl,hs,hcap,?_,?_,htag⟩
 ·intro h0
  obtain⟨h1,h2⟩:=hA h0
  rw[h1]
  cases ad
  simp only at h2
  subst h2
  rfl
 ·intro p c hc
  obtain⟨i,x,j,rfl,hx,hj⟩:=VZ hs hc
  exact⟨hone i x j c hx hj,(hcell i x j c hx hj).1,(hcell i x j c hx hj).2,hrep i x j c hx hj⟩
theorem r4 {μ:Mu} {F:c8} {w:World} {xs:List AV} {t:eE} {A:Option Addr} {cap sz b o:Nat} {vals:Nat→Value} (hs:∀x,x∈xs→x.cells.length=sz) (hcap:xs.length≤cap)
  (hA:0 < xs.length→A=some ⟨b,o,none⟩) (hf:∀(p:Nat) (c:AV),(b8 xs)[p]? =some c→At μ F w b (o+p) c (vals p)) (htag:mS μ w A xs.length cap sz t):
  bP μ F w (.sl sz xs t) (.slice A xs.length cap):=by
 refine .sl sz xs t A cap ⟨b,o,none⟩ vals hs hcap (fun h=>⟨hA h,rfl⟩) ?_ ?_ ?_ htag
 ·intro i x j c hx hj
  exact (hf _ c (nX hs hx hj)).one
 ·intro i x j c hx hj
  have:=hf _ c (nX hs hx hj)
  exact⟨this.cell,this.free⟩
 ·intro i x j c hx hj
  exact (hf _ c (nX hs hx hj)).rep
theorem pC {μ:Mu} {F:c8} {w:World} {l:List AV} {b o:Nat} {vals:Nat→Value} (hf:∀(p:Nat) (c:AV),l[p]? =some c→At μ F w b (o+p) c (vals p)):
  (∀(j:Nat) (u:Value),((List.range l.length).map vals)[j]? =some u→w.cell? ((⟨b,o,none⟩:Addr).add j)=some u)∧∀u∈(List.range l.length).map vals,u.oneCell'=true:=by
 constructor
 ·intro j u hu
  rw[List.getElem?_map] at hu
  by_cases hj:j < l.length
  ·rw[List.getElem?_range hj] at hu
   simp at hu
   subst hu
   rw[Addr.add_lit]
   exact (hf j _ (List.getElem?_eq_getElem hj)).cell
  ·rw[List.getElem?_eq_none (by simp;omega)] at hu
   cases hu
 ·intro u hu
  obtain⟨j,hj,rfl⟩:=List.mem_map.1 hu
  have hj':j < l.length:=by simpa using hj
  exact (hf j _ (List.getElem?_eq_getElem hj')).one
def Mu.put (μ:Mu) (id:Nat) (l:Loc):Mu:=fun i=>if i=id then some l else μ i
theorem dQ.push {w w':World} {μ:Mu} (hb:Below w.heap.size w w') {n:Nat} (hn:μ n=none) {l:Loc} (hl:∀b o,jG (μ.put n l) b o→b < w.heap.size→jG μ b o):dQ w μ w' (μ.put n l):=by
 refine⟨hb.os,hb.tape,hb.output,hb.size,?_,fun b h _=>hb.block b h,fun b e c ty fr h _ hc=>⟨c,fr,(hb.block b h).trans hc,rfl,fun _ _=>rfl⟩,fun b o h ho=>hl b o ho h⟩
 intro id hid
 refine .inl ?_
 unfold Mu.put
 rw[if_neg]
 rintro rfl
 exact hid hn
theorem lH {μ:Mu} {F:c8} {M:aG} {w:World} (h:dY μ F M w):μ M.next=none:=by
 have:=h.dom M.next
 cases hm:μ M.next with
 |none=>rfl
 |some l=>exact absurd (this.1 (by rw[hm];simp)) (Nat.lt_irrefl _)
theorem j9 {μ:Mu} {F:c8} {M:aG} {w w':World} (h:dY μ F M w) (hb:Below w.heap.size w w') {l:List AV} {c:Array Value} {ty:TypeId} {b:Nat} (hnew:w.heap.size≤b)
  (hc:w'.heap[b]? =some (.cells c ty (0,0))) (hs:c.size=l.length) (hone:∀(i:Nat) (v:Value),c[i]? =some v→v.oneCell'=true)
  (hr:∀(i:Nat) (x:AV) (v:Value),l[i]? =some x→c[i]? =some v→bP μ F w x v):
  dQ w μ w' (μ.put M.next (.at b))∧dY (μ.put M.next (.at b)) F (M.push (.cells l)) w':=by
 have hn:=lH h
 have hown:∀k o,jG (μ.put M.next (.at b)) k o→k=b∨jG μ k o:=by
  rintro k o ⟨id,h1|⟨e,g,h1,he⟩⟩
  ·unfold Mu.put at h1
   split at h1
   ·cases h1;exact .inl rfl
   ·exact .inr ⟨id,.inl h1⟩
  ·unfold Mu.put at h1
   split at h1
   ·cases h1
   ·exact .inr ⟨id,.inr ⟨e,g,h1,he⟩⟩
 have hev:dQ w μ w' (μ.put M.next (.at b)):=dQ.push hb hn fun k o ho hk=>by
  rcases hown k o ho with rfl|ho
  ·omega
  ·exact ho
 refine⟨hev,?_,?_,?_,?_,?_,?_,?_⟩
 ·intro id
  have:=h.dom id
  unfold Mu.put aG.push
  simp only
  split
  ·rename_i e;subst e;simp
  ·rename_i e
   rw[this]
   omega
 ·intro id l' hl
  rw[aG.get_push] at hl
  split at hl
  ·rename_i e
   cases hl
   refine⟨b,c,ty,by simp[Mu.put,e],hc,hs,hone,fun i x v hx hv=>(hr i x v hx hv).evo hev⟩
  ·rename_i e
   obtain⟨b',c',ty',h1,h2,h3,h4,h5⟩:=h.obj id l' hl
   have hlt:b' < w.heap.size:=(Array.getElem?_eq_some_iff.1 h2).1
   exact⟨b',c',ty',by simp[Mu.put,e,h1],(hb.block b' hlt).trans h2,h3,h4,fun i x v hx hv=>(h5 i x v hx hv).evo hev⟩
 ·intro id g hl
  rw[aG.get_push] at hl
  split at hl
  ·cases hl
  ·rename_i e
   obtain⟨p,h1,h2⟩:=h.spare id g hl
   refine⟨p,by simp[Mu.put,e,h1],fun b' e' hp=>?_⟩
   obtain⟨c',ty',fr,h3,h4,h5⟩:=h2 b' e' hp
   have hlt:b' < w.heap.size:=(Array.getElem?_eq_some_iff.1 h3).1
   exact⟨c',ty',fr,(hb.block b' hlt).trans h3,h4,h5⟩
 ·have lie:∀i k,dH (μ.put M.next (.at b)) i k→(i=M.next∧k=b)∨dH μ i k:=by
   rintro i k (h1|⟨e,g,h1⟩)
   ·unfold Mu.put at h1
    split at h1
    ·cases h1;exact .inl ⟨by assumption,rfl⟩
    ·exact .inr (.inl h1)
   ·unfold Mu.put at h1
    split at h1
    ·cases h1
    ·exact .inr (.inr ⟨e,g,h1⟩)
  have old:∀i k,dH μ i k→k < w.heap.size:=by
   rintro i k (h1|⟨e,g,h1⟩)
   ·exact h.fit.own k 0 ⟨i,.inl h1⟩
   ·exact h.fit.own k e ⟨i,.inr ⟨e,g,h1,Nat.le_refl _⟩⟩
  intro i j k hi hj
  rcases lie i k hi with ⟨h1,h2⟩|h1<;>rcases lie j k hj with ⟨h3,h4⟩|h3
  ·exact h1.trans h3.symm
  ·have:=old j k h3;omega
  ·have:=old i k h1;omega
  ·exact h.inj i j k h1 h3
 ·intro k o ho hF
  rcases hown k o ho with rfl|ho
  ·have:=h.fit.frm k o hF;omega
  ·exact h.frm k o ho hF
 ·refine⟨fun k o ho=>?_,fun k o hF=>Nat.lt_of_lt_of_le (h.fit.frm k o hF) hb.size⟩
  rcases hown k o ho with rfl|ho
  ·exact (Array.getElem?_eq_some_iff.1 hc).1
  ·exact Nat.lt_of_lt_of_le (h.fit.own k o ho) hb.size
 ·intro id gg o vs t hl
  rw[aG.get_push] at hl
  split at hl
  ·cases hl
  ·rename_i e
   obtain⟨b',h1,h2,h3⟩:=h.raw id gg o vs t hl
   have hlt:b' < w.heap.size:=(Array.getElem?_eq_some_iff.1 h2).1
   exact⟨b',h1.congr (by simp[Mu.put,e]),(hb.block b' hlt).trans h2,fun i=>(h3 i).evo hev⟩
structure w6 (w:World) (b:Nat) (w':World):Prop where
 os:w'.os=w.os
 tape:w'.tape=w.tape
 output:w'.output=w.output
 size:w'.heap.size=w.heap.size
 other:∀k,k≠b→w'.heap[k]? =w.heap[k]?
theorem lN {μ:Mu} {F:c8} {M:aG} {w w':World} (h:dY μ F M w) {id b:Nat} (hid:μ id=some (.at b)) {c0:Array Value} {ty:TypeId} (h0:w.heap[b]? =some (.cells c0 ty (0,0))) (hw:w6 w b w')
  {l:List AV} {c:Array Value} (hc:w'.heap[b]? =some (.cells c ty (0,0))) (hs0:c.size=c0.size) (hs:c.size=l.length) (hone:∀(i:Nat) (v:Value),c[i]? =some v→v.oneCell'=true)
  (hr:∀(i:Nat) (x:AV) (v:Value),l[i]? =some x→c[i]? =some v→bP μ F w x v):dQ w μ w' μ∧dY μ F (M.set id (.cells l)) w':=by
 have hev:dQ w μ w' μ:=by
  refine⟨hw.os,hw.tape,hw.output,Nat.le_of_eq hw.size.symm,fun _ _=>.inl rfl,?_,?_,fun _ _ _ h=>h⟩
  ·intro k hk hn
   refine hw.other k ?_
   rintro rfl
   exact hn 0 ⟨id,.inl hid⟩
  ·intro k e c' ty' fr hk hn hc'
   by_cases hkb:k=b
   ·subst hkb
    have he:=hn 0 ⟨id,.inl hid⟩
    rw[h0] at hc'
    cases hc'
    exact⟨c,_,hc,hs0,fun o ho=>by omega⟩
   ·exact⟨c',fr,(hw.other k hkb).trans hc',rfl,fun _ _=>rfl⟩
 refine⟨hev,h.dom,?_,?_,h.inj,h.frm,⟨fun k o ho=>by rw[hw.size];exact h.fit.own k o ho,fun k o ho=>by rw[hw.size];exact h.fit.frm k o ho⟩,?_⟩
 ·intro i l' hl
  rw[aG.get_set] at hl
  split at hl
  ·rename_i e
   cases hl
   subst e
   exact⟨b,c,ty,hid,hc,hs,hone,fun i x v hx hv=>(hr i x v hx hv).evo hev⟩
  ·rename_i e
   obtain⟨b',c',ty',h1,h2,h3,h4,h5⟩:=h.obj i l' hl
   have hne:b'≠b:=by
    rintro rfl
    exact e (h.inj i id b' (.inl h1) (.inl hid))
   exact⟨b',c',ty',h1,(hw.other b' hne).trans h2,h3,h4,fun i x v hx hv=>(h5 i x v hx hv).evo hev⟩
 ·intro i g hl
  rw[aG.get_set] at hl
  split at hl
  ·cases hl
  ·rename_i e
   obtain⟨p,h1,h2⟩:=h.spare i g hl
   refine⟨p,h1,fun b' e' hp=>?_⟩
   obtain⟨c',ty',fr,h3,h4,h5⟩:=h2 b' e' hp
   have hne:b'≠b:=by
    rintro rfl
    subst hp
    exact e (h.inj i id b' (.inr ⟨e',g,h1⟩) (.inl hid))
   exact⟨c',ty',fr,(hw.other b' hne).trans h3,h4,h5⟩
 ·intro i gg o vs t hl
  rw[aG.get_set] at hl
  split at hl
  ·cases hl
  ·rename_i e
   obtain⟨b',h1,h2,h3⟩:=h.raw i gg o vs t hl
   have hne:b'≠b:=by
    rintro rfl
    exact e (h.inj i id b' h1.lies (.inl hid))
   exact⟨b',h1,(hw.other b' hne).trans h2,fun i=>(h3 i).evo hev⟩
theorem tK {μ:Mu} {F:c8} {M:aG} {w w':World} (h:dY μ F M w) {p:Option (Nat×Nat)}
  (hos:w'.os=w.os) (htape:w'.tape=w.tape) (hout:w'.output=w.output) (hsize:w.heap.size≤w'.heap.size)
  {id g:Nat} (hcase:(id=M.next∧∀k,k < w.heap.size→w'.heap[k]? =w.heap[k]?)∨
   (∃q g0,M.get id=some (.spare g0)∧μ id=some (.spare q g0)∧g0 < g∧(∀k,k < w.heap.size→(∀e,q≠some (k,e))→w'.heap[k]? =w.heap[k]?)∧
    ∀k e,q=some (k,e)→∀c ty fr,w.heap[k]? =some (.cells c ty fr)→∃c',w'.heap[k]? =some (.cells c' ty fr)∧c'.size=c.size∧∀o,o < e→c'[o]? =c[o]?))
  (hp:∀b e,p=some (b,e)→(∃c ty fr,w'.heap[b]? =some (.cells c ty fr)∧e≤c.size∧a6k fr c.size)∧
   (w.heap.size≤b∨∃e0 g0,μ id=some (.spare (some (b,e0)) g0)∧e0≤e)):
  dQ w μ w' (μ.put id (.spare p g))∧∀M',M'.next=(if id=M.next then M.next+1 else M.next)→(∀i,M'.get i=if i=id then some (.spare g) else M.get i)→dY (μ.put id (.spare p g)) F M' w':=by
 have hidn:id=M.next∨μ id≠none:=by
  rcases hcase with ⟨h1,_⟩|⟨q,g0,_,h1,_⟩
  ·exact .inl h1
  ·exact .inr (by rw[h1];simp)
 have hput:∀i,i≠id→(μ.put id (.spare p g)) i=μ i:=fun i hi=>by simp[Mu.put,hi]
 have hputs:(μ.put id (.spare p g)) id=some (.spare p g):=by simp[Mu.put]
 have hown:∀k o,jG (μ.put id (.spare p g)) k o→w.heap.size≤k∨jG μ k o:=by
  rintro k o ⟨i,h1|⟨e,g',h1,he⟩⟩
  ·by_cases hi:i=id
   ·subst hi;rw[hputs] at h1;cases h1
   ·rw[hput i hi] at h1;exact .inr ⟨i,.inl h1⟩
  ·by_cases hi:i=id
   ·subst hi
    rw[hputs] at h1
    cases h1
    rcases (hp k e rfl).2 with h2|⟨e0,g0,h2,h3⟩
    ·exact .inl h2
    ·exact .inr ⟨i,.inr ⟨e0,g0,h2,by omega⟩⟩
   ·rw[hput i hi] at h1;exact .inr ⟨i,.inr ⟨e,g',h1,he⟩⟩
 have hold:∀k,k < w.heap.size→(∀i,dH μ i k→i≠id)→w'.heap[k]? =w.heap[k]? :=by
  intro k hk hl
  rcases hcase with ⟨_,h2⟩|⟨q,g0,h1,h2,_,h4,h5⟩
  ·exact h2 k hk
  ·refine h4 k hk ?_
   rintro e rfl
   exact hl id (.inr ⟨e,g0,h2⟩) rfl
 have hev:dQ w μ w' (μ.put id (.spare p g)):=by
  refine⟨hos,htape,hout,hsize,?_,?_,?_,fun k o hk ho=>(hown k o ho).resolve_left (by omega)⟩
  ·intro i hi
   by_cases he:i=id
   ·subst he
    rcases hcase with ⟨h1,_⟩|⟨q,g0,_,h1,h2,_⟩
    ·subst h1;exact absurd (lH h) hi
    ·exact .inr (.inr ⟨q,g0,p,g,h1,hputs,h2⟩)
   ·exact .inl (hput i he)
  ·intro k hk hn
   refine hold k hk ?_
   rintro i (h1|⟨e,g',h1⟩) rfl
   ·exact hn 0 ⟨i,.inl h1⟩
   ·exact hn e ⟨i,.inr ⟨e,g',h1,Nat.le_refl _⟩⟩
  ·intro k e c ty fr hk hn hc
   rcases hcase with ⟨_,h2⟩|⟨q,g0,h1,h2,_,h4,h5⟩
   ·exact⟨c,fr,(h2 k hk).trans hc,rfl,fun _ _=>rfl⟩
   ·by_cases hq:∃e',q=some (k,e')
    ·obtain⟨e',rfl⟩:=hq
     obtain⟨c',h6,h7,h8⟩:=h5 k e' rfl c ty fr hc
     have:=hn e' ⟨id,.inr ⟨e',g0,h2,Nat.le_refl _⟩⟩
     exact⟨c',fr,h6,h7,fun o ho=>h8 o (by omega)⟩
    ·exact⟨c,fr,(h4 k hk fun e' he'=>hq ⟨e',he'⟩).trans hc,rfl,fun _ _=>rfl⟩
 refine⟨hev,fun M' hnext hget=>⟨?_,?_,?_,?_,?_,?_,?_⟩⟩
 ·intro i
  have:=h.dom i
  by_cases hi:i=id
  ·subst hi
   rw[hputs,hnext]
   simp only[ne_eq,reduceCtorEq,not_false_eq_true,true_iff]
   split
   ·omega
   ·rename_i hne
    exact (h.dom i).1 (hidn.resolve_left hne)
  ·rw[hput i hi,this,hnext]
   split
   ·rename_i he;omega
   ·rfl
 ·intro i l hl
  rw[hget] at hl
  split at hl
  ·cases hl
  ·rename_i hi
   obtain⟨b,c,ty,h1,h2,h3,h4,h5⟩:=h.obj i l hl
   have hlt:b < w.heap.size:=(Array.getElem?_eq_some_iff.1 h2).1
   refine⟨b,c,ty,(hput i hi).trans h1,(hold b hlt ?_).trans h2,h3,h4,fun i x v hx hv=>(h5 i x v hx hv).evo hev⟩
   rintro j hj rfl
   exact hi (h.inj i j b (.inl h1) hj)
 ·intro i g' hl
  rw[hget] at hl
  split at hl
  ·rename_i hi
   cases hl
   subst hi
   exact⟨p,hputs,fun b e he=>(hp b e he).1⟩
  ·rename_i hi
   obtain⟨q,h1,h2⟩:=h.spare i g' hl
   refine⟨q,(hput i hi).trans h1,fun b e hq=>?_⟩
   obtain⟨c,ty,fr,h3,h4,h5⟩:=h2 b e hq
   have hlt:b < w.heap.size:=(Array.getElem?_eq_some_iff.1 h3).1
   refine⟨c,ty,fr,(hold b hlt ?_).trans h3,h4,h5⟩
   rintro j hj rfl
   subst hq
   exact hi (h.inj i j b (.inr ⟨e,g',h1⟩) hj)
 ·have lie:∀i k,dH (μ.put id (.spare p g)) i k→(i=id∧(w.heap.size≤k∨dH μ id k))∨(i≠id∧dH μ i k):=by
   rintro i k (h1|⟨e,g',h1⟩)
   ·by_cases hi:i=id
    ·subst hi;rw[hputs] at h1;cases h1
    ·rw[hput i hi] at h1;exact .inr ⟨hi,.inl h1⟩
   ·by_cases hi:i=id
    ·subst hi
     rw[hputs] at h1
     cases h1
     rcases (hp k e rfl).2 with h2|⟨e0,g0,h2,_⟩
     ·exact .inl ⟨rfl,.inl h2⟩
     ·exact .inl ⟨rfl,.inr (.inr ⟨e0,g0,h2⟩)⟩
    ·rw[hput i hi] at h1;exact .inr ⟨hi,.inr ⟨e,g',h1⟩⟩
  have old:∀i k,dH μ i k→k < w.heap.size:=by
   rintro i k (h1|⟨e,g,h1⟩)
   ·exact h.fit.own k 0 ⟨i,.inl h1⟩
   ·exact h.fit.own k e ⟨i,.inr ⟨e,g,h1,Nat.le_refl _⟩⟩
  intro i j k hi hj
  rcases lie i k hi with ⟨rfl,h1⟩|⟨h0,h1⟩<;>rcases lie j k hj with ⟨h2,h3⟩|⟨h2,h3⟩
  ·exact h2.symm
  ·have hk:=old j k h3
   rcases h1 with h1|h1
   ·omega
   ·exact h.inj i j k h1 h3
  ·subst h2
   have hk:=old i k h1
   rcases h3 with h3|h3
   ·omega
   ·exact h.inj i j k h1 h3
  ·exact h.inj i j k h1 h3
 ·intro k o ho hF
  rcases hown k o ho with h1|h1
  ·have:=h.fit.frm k o hF;omega
  ·exact h.frm k o h1 hF
 ·refine⟨fun k o ho=>?_,fun k o hF=>Nat.lt_of_lt_of_le (h.fit.frm k o hF) hsize⟩
  rcases ho with ⟨i,h1|⟨e,g',h1,he⟩⟩
  ·by_cases hi:i=id
   ·subst hi;rw[hputs] at h1;cases h1
   ·rw[hput i hi] at h1
    exact Nat.lt_of_lt_of_le (h.fit.own k o ⟨i,.inl h1⟩) hsize
  ·by_cases hi:i=id
   ·subst hi
    rw[hputs] at h1
    cases h1
    obtain⟨⟨c,ty,fr,h2,_⟩,_⟩:=hp k e rfl
    exact (Array.getElem?_eq_some_iff.1 h2).1
   ·rw[hput i hi] at h1
    exact Nat.lt_of_lt_of_le (h.fit.own k o ⟨i,.inr ⟨e,g',h1,he⟩⟩) hsize
 ·intro i gg o vs t hl
  rw[hget] at hl
  split at hl
  ·cases hl
  ·rename_i hi
   obtain⟨b,h1,h2,h3⟩:=h.raw i gg o vs t hl
   have hlt:b < w.heap.size:=(Array.getElem?_eq_some_iff.1 h2).1
   refine⟨b,h1.congr (hput i hi),(hold b hlt ?_).trans h2,fun i=>(h3 i).evo hev⟩
   rintro j hj rfl
   exact hi (h.inj i j b h1.lies hj)
end Go.Ab
namespace Go.Ab
open Go.RowKit
def wR (P:Program) (op:Op) (ty:TypeId) (ρ:Operand→AV) (M:aG) (x:AV):Prop:=
 ∀(μ:Mu) (F:c8) (w:World) (ρc:Operand→Value) (o:Oper),dY μ F M w→o.op=op→o.type=ty→(∀y∈op.operands,bP μ F w (ρ y) (ρc y))→
  ∃v w',(execOp ρc o).run P w=.ok (.value v) w'∧Below w.heap.size w w'∧bP μ F w' x v
def F9 (P:Program) (op:Op) (ty:TypeId) (ρ:Operand→AV) (M:aG) (x:AV) (M':aG):Prop:=
 ∀(μ:Mu) (F:c8) (w:World) (ρc:Operand→Value) (o:Oper),dY μ F M w→o.op=op→o.type=ty→(∀y∈op.operands,bP μ F w (ρ y) (ρc y))→
  ∃μ' n v w',(execOp ρc o).run P w=.ok n w'∧(n=.value v∨n=.skip∧v=undef)∧dQ w μ w' μ'∧dY μ' F M' w'∧bP μ' F w' x v
theorem jF.toR {P:Program} {op:Op} {ty:TypeId} {ρ:Operand→AV} {M:aG} {x:AV} (h:jF P op ty ρ x):wR P op ty ρ M x:=
 fun μ F w ρc o hg ho ht hr=>h μ F w ρc o hg.fit ho ht hr
theorem wR.toE {P:Program} {op:Op} {ty:TypeId} {ρ:Operand→AV} {M:aG} {x:AV} (h:wR P op ty ρ M x):F9 P op ty ρ M x M:=by
 intro μ F w ρc o hg ho ht hr
 obtain⟨v,w',h1,h2,h3⟩:=h μ F w ρc o hg ho ht hr
 exact⟨μ,.value v,v,w',h1,.inl rfl,dQ.of_below μ h2,hg.below h2,h3⟩
def AV.solid:AV→Bool
 |.top|.tup _=>false
 |_=>true
theorem a23 {μ:Mu} {F:c8} {w:World} {x:AV} {v:Value} (h:bP μ F w x v) (hs:x.solid=true) (hn:∀l,x≠.agg l):v.oneCell'=true:=by
 cases h<;>first|rfl|assumption|(simp[AV.solid] at hs;done)|exact absurd rfl (hn _)
theorem jU {μ:Mu} {F:c8} {w:World} {x:AV} {v:Value} (h:bP μ F w x v) (hs:x.solid=true):
  v.cells.size=x.cells.length∧(∀(i:Nat) (u:Value),v.cells[i]? =some u→u.oneCell'=true)∧∀(i:Nat) (y:AV) (u:Value),x.cells[i]? =some y→v.cells[i]? =some u→bP μ F w y u:=by
 by_cases ha:∃l,x=.agg l
 ·obtain⟨l,rfl⟩:=ha
  obtain⟨c,rfl,h1,h2,h3⟩:=h.agg_inv
  exact⟨h1,h3,h2⟩
 ·have hn:∀l,x≠.agg l:=fun l e=>ha ⟨l,e⟩
  have h1:=a23 h hs hn
  have hv:v.cells=#[v]:=by cases v<;>first|rfl|(simp[Value.oneCell'] at h1;done)
  have hx:x.cells=[x]:=by cases x<;>first|rfl|exact absurd rfl (hn _)
  rw[hv,hx]
  refine⟨rfl,?_,?_⟩
  ·intro i u hu
   cases i with
   |zero=>simp at hu;subst hu;exact h1
   |succ i=>simp at hu
  ·intro i y u hy hu
   cases i with
   |zero=>simp at hy hu;subst hy;subst hu;exact h
   |succ i=>simp at hy
theorem B6 (w:World) (o:Obj) (k:Nat) (h:k < w.heap.size):({w with heap:=w.heap.push o}:World).heap[k]? =w.heap[k]? :=by
 simp only[Array.getElem?_push]
 rw[if_neg (by omega)]
theorem fL (w:World) (o:Obj):Below w.heap.size w {w with heap:=w.heap.push o}:=
 ⟨rfl,rfl,rfl,by simp,fun k hk=>B6 w o k hk⟩
theorem a2t {P:Program} {t:TypeId} {x:Operand} {ty:TypeId} {ρ:Operand→AV} {M:aG} (hs:(ρ x).solid=true):F9 P (.box t x) ty ρ M (.ptr M.next 0) (M.push (.cells (ρ x).cells)):=by
 intro μ F w ρc o hg ho ht hr
 have hx:=hr x (by simp[Op.operands])
 obtain⟨h1,h2,h3⟩:=jU hx hs
 have hb:=fL w (.cells (ρc x).cells t)
 have hnew:({w with heap:=w.heap.push (.cells (ρc x).cells t)}:World).heap[w.heap.size]? =some (.cells (ρc x).cells t (0,0)):=by simp
 obtain⟨he,hG⟩:=j9 hg hb (Nat.le_refl _) hnew h1 h2 h3
 refine⟨_,_,.pointer (some ⟨w.heap.size,0,none⟩),_,?_,.inl rfl,he,hG,?_⟩
 ·simp[execOp,ho,Instr.box,newVar,newRow]
 ·exact .ptr _ _ _ rfl (by simp[Mu.put]) (fun b hb=>by simp[Mu.put] at hb;subst hb;rfl)
theorem RO {P:Program} {τ:Tab} (hτ:TabOK P τ) {t:TypeId} {i:TI} (hi:aJ τ t=some i) (h1:i.agg=true∨i.size=1) (hs:i.zv.solid=true) {ty:TypeId} {ρ:Operand→AV} {M:aG}:
  F9 P (.alloc t) ty ρ M (.ptr M.next 0) (M.push (.cells i.zv.cells)):=by
 intro μ F w ρc o hg ho ht hr
 obtain⟨f,d,z,H⟩:=TI.spec hτ hi
 have hx:=H.zrep h1 μ F w
 obtain⟨h1,h2,h3⟩:=jU hx hs
 have hb:=fL w (.cells z.cells t)
 have hnew:({w with heap:=w.heap.push (.cells z.cells t)}:World).heap[w.heap.size]? =some (.cells z.cells t (0,0)):=by simp
 obtain⟨he,hG⟩:=j9 hg hb (Nat.le_refl _) hnew h1 h2 h3
 refine⟨_,_,.pointer (some ⟨w.heap.size,0,none⟩),_,?_,.inl rfl,he,hG,?_⟩
 ·have hz:(zeroValue t).run P w=.ok z w:=by simp[zeroValue,typeInfo,H.info,H.zero]
  simp[execOp,ho,Instr.alloc,newVar,newRow,hz]
 ·exact .ptr _ _ _ rfl (by simp[Mu.put]) (fun b hb=>by simp[Mu.put] at hb;subst hb;rfl)
theorem a0r {P:Program} {t:TypeId} {x:Operand} {ty:TypeId} {ρ:Operand→AV} (hs:(ρ x).solid=true):jF P (.box t x) ty ρ (.ref (ρ x).cells):=by
 intro μ F w ρc o hf ho ht hr
 have hx:=hr x (by simp[Op.operands])
 obtain⟨h1,h2,h3⟩:=jU hx hs
 have hb:=fL w (.cells (ρc x).cells t)
 refine⟨.pointer (some ⟨w.heap.size,0,none⟩),_,?_,hb,?_⟩
 ·simp[execOp,ho,Instr.box,newVar,newRow]
 ·have hc:∀j,({w with heap:=w.heap.push (.cells (ρc x).cells t)}:World).cell? ⟨w.heap.size,0+j,none⟩=(ρc x).cells[j]? :=by
   intro j
   rw[cF (c:=(ρc x).cells) (ty:=t) (fr:=(0,0)) (by simp),Nat.zero_add]
  have hget:∀(j:Nat) (c:AV),(ρ x).cells[j]? =some c→(ρc x).cells[j]? =some ((ρc x).cells.getD j undef):=by
   intro j c hj
   have:j < (ρc x).cells.size:=by rw[h1];exact (List.getElem?_eq_some_iff.1 hj).1
   simp[Array.getD,this]
  refine .ref _ _ _ (fun j=>(ρc x).cells.getD j undef) ?_ ?_ ?_
  ·intro j c hj
   exact h2 j _ (hget j c hj)
  ·intro j c hj
   refine⟨by rw[hc];exact hget j c hj,hf.new (by simp)⟩
  ·intro j c hj
   exact (h3 j c _ hj (hget j c hj)).later hb
theorem p9 {μ:Mu} {F:c8} {M:aG} {w:World} (hg:dY μ F M w) {id off:Nat} {l:List AV} (hM:M.get id=some (.cells l)) {v:Value} (hr:bP μ F w (.ptr id off) v):
  ∃b c ty,μ id=some (.at b)∧v=.pointer (some ⟨b,off,none⟩)∧w.heap[b]? =some (.cells c ty (0,0))∧c.size=l.length∧(∀(i:Nat) (v:Value),c[i]? =some v→v.oneCell'=true)∧
   ∀(i:Nat) (x:AV) (v:Value),l[i]? =some x→c[i]? =some v→bP μ F w x v:=by
 obtain⟨b,c,ty,h1,h2,h3,h4,h5⟩:=hg.obj id l hM
 cases hr with
 |ptr _ _ _ h1' h hv=>exact⟨b,c,ty,h1,hv b h1,h2,h3,h4,h5⟩
def cX (M:aG) (τ:Tab) (t:TypeId) (x:AV):Option AV:=
 match x with
 |.ptr id off=>
  match M.get id,aJ τ t with
  |some (.cells l),some i=>if i.agg=true then (if off+i.size≤l.length then some (.agg ((l.drop off).take i.size)) else none) else l[off]?
  |_,_=>none
 |_=>none
theorem A2 {P:Program} {τ:Tab} (hτ:TabOK P τ) {t:TypeId} {y:AV} {M:aG} {r:AV} (h:cX M τ t y=some r) {μ:Mu} {F:c8} {w:World} (hg:dY μ F M w) {p:Value} (hx:bP μ F w y p):
  ∃b off v,p=.pointer (some ⟨b,off,none⟩)∧(loadVar t ⟨b,off,none⟩).run P w=.ok v w∧bP μ F w r v:=by
 unfold cX at h
 split at h
 case h_2=>cases h
 rename_i id off
 split at h
 case h_2=>cases h
 rename_i l i hM hi
 obtain⟨f,d,z,H⟩:=TI.spec hτ hi
 obtain⟨b,c,tb,hm,hv,hb,hsz,hone,hrep⟩:=p9 hg hM hx
 refine⟨b,off,?_⟩
 have hcell:∀j,w.cell? ⟨b,off+j,none⟩=c[off+j]? :=fun j=>cF hb
 split at h
 ·rename_i hagg
  split at h
  case isFalse=>cases h
  rename_i hle
  cases h
  have hlt:∀j,j < i.size→c[off+j]? =some (c.getD (off+j) undef):=fun j hj=>by
   have:off+j < c.size:=by omega
   simp[Array.getD,this]
  have hl:=H.run_load w b off (fun j=>c.getD (off+j) undef) (fun j hj=>by
   rw[if_pos hagg] at hj
   rw[hcell,hlt j hj])
  rw[if_pos hagg] at hl
  refine⟨.agg (List.map (fun j=>c.getD (off+j) undef) (List.range i.size)).toArray,hv,hl,?_⟩
  have hu:∀(j:Nat) (u:Value),(List.map (fun j=>c.getD (off+j) undef) (List.range i.size)).toArray[j]? =some u→j < i.size∧c[off+j]? =some u:=by
   intro j u hu
   have hj:j < i.size:=by
    have:=(Array.getElem?_eq_some_iff.1 hu).1
    simpa using this
   refine⟨hj,?_⟩
   rw[hlt j hj]
   simp[hj] at hu
   rw[←hu]
   simp[Array.getD_eq_getD_getElem?]
  refine .agg _ _ (by simp;omega) ?_ ?_
  ·intro j y u hy hu'
   obtain⟨hj,hu'⟩:=hu j u hu'
   rw[List.getElem?_take,if_pos hj,List.getElem?_drop] at hy
   exact hrep _ _ _ hy hu'
  ·intro j u hu'
   exact hone _ _ (hu j u hu').2
 ·rename_i hagg
  have hlt:off < c.size:=by rw[hsz];exact (List.getElem?_eq_some_iff.1 h).1
  have hl:=H.run_load w b off (fun j=>c[off]) (fun j hj=>by
   rw[if_neg hagg] at hj
   obtain rfl:j=0:=by omega
   rw[hcell,Nat.add_zero,Array.getElem?_eq_getElem hlt])
  rw[if_neg hagg] at hl
  exact⟨c[off],hv,hl,hrep off r _ h (Array.getElem?_eq_getElem hlt)⟩
theorem GH {P:Program} {τ:Tab} (hτ:TabOK P τ) {t:TypeId} {x:Operand} {ty:TypeId} {ρ:Operand→AV} {M:aG} {r:AV} (h:cX M τ t (ρ x)=some r):wR P (.load t x) ty ρ M r:=by
 intro μ F w ρc o hg ho ht hr
 obtain⟨b,off,v,hv,hl,hrep⟩:=A2 hτ h hg (hr x (by simp[Op.operands]))
 exact⟨v,w,by simp[execOp,ho,hv,Instr.loadAt,Instr.sureAddr,hl],Below.refl _ _,hrep⟩
def EH (M:aG) (τ:Tab) (t:TypeId) (j:Nat) (x:AV):Option AV:=
 match x with
 |.ptr id off=>
  match M.get id,fieldAt τ t j with
  |some (.cells _),some (o,fi)=>if fi.size≠0 then some (.ptr id (off+o)) else none
  |_,_=>none
 |_=>none
theorem QP {P:Program} {τ:Tab} (hτ:TabOK P τ) {t:TypeId} {x:Operand} {j:Nat} {ty:TypeId} {ρ:Operand→AV} {M:aG} {r:AV} (h:EH M τ t j (ρ x)=some r):wR P (.fieldAddr t x j) ty ρ M r:=by
 intro μ F w ρc o hg ho ht hr
 have hx:=hr x (by simp[Op.operands])
 unfold EH at h
 split at h
 case h_2=>cases h
 rename_i id off e
 split at h
 case h_2=>cases h
 rename_i l of_ fi hM hfa
 obtain⟨fs,f,ff,fd,fz,hu,hj,hoff,H⟩:=jQ hτ hfa
 split at h
 case isFalse=>cases h
 rename_i hs
 cases h
 rw[e] at hx
 obtain⟨b,c,tb,hm,hv,hb,hsz,hone,hrep⟩:=p9 hg hM hx
 subst hoff
 refine⟨.pointer (some ⟨b,off+f.offset,none⟩),w,?_,Below.refl _ _,?_⟩
 ·simp[execOp,ho,hv,vE w hu hj H hs]
 ·exact .ptr _ _ _ rfl (by rw[hm];simp) (fun b' hb'=>by rw[hm] at hb';cases hb';rfl)
def a8d (M:aG) (x:AV):Option AV:=
 match x with
 |.ptr id off=>(match M.get id with|some (.cells _)=>some x|_=>none)
 |.ref _=>some x
 |.fn (.func _) _ _=>some x
 |_=>none
theorem a3h {P:Program} {x:Operand} {ty:TypeId} {ρ:Operand→AV} {M:aG} {r:AV} (h:a8d M (ρ x)=some r):wR P (.nilCheck x) ty ρ M r:=by
 intro μ F w ρc o hg ho ht hr
 have hx:=hr x (by simp[Op.operands])
 unfold a8d at h
 split at h
 ·rename_i id off e
  split at h
  case h_2=>cases h
  rename_i l hM
  cases h
  have hx':=hx
  rw[e] at hx
  obtain⟨b,c,tb,hm,hv,_⟩:=p9 hg hM hx
  rw[hv] at hx'
  exact⟨_,w,by simp[execOp,ho,hv],Below.refl _ _,hx'⟩
 ·rename_i cells e
  cases h
  have hx':=hx
  rw[e] at hx
  obtain⟨b,off,hv⟩:=iE hx
  rw[hv] at hx'
  exact⟨_,w,by simp[execOp,ho,hv],Below.refl _ _,hx'⟩
 ·rename_i g l1 l2 e
  cases h
  have hx':=hx
  rw[e] at hx
  obtain⟨c1,c2,hv,_⟩:=hx.fn_inv
  rw[hv] at hx'
  exact⟨_,w,by simp[execOp,ho,hv],Below.refl _ _,hx'⟩
 ·cases h
def b9:List AV→Nat→List AV→List AV
 |[],_,_=>[]
 |r,0,[]=>r
 |_::r,0,c::cs=>c::b9 r 0 cs
 |a::r,n+1,cs=>a::b9 r n cs
theorem bO:∀(l:List AV) (n:Nat) (cs:List AV),(b9 l n cs).length=l.length
 |[],_,_=>by simp[b9]
 |_::r,0,[]=>rfl
 |a::r,0,c::cs=>by simp[b9,bO r 0 cs]
 |a::r,n+1,cs=>by simp[b9,bO r n cs]
theorem eZ:∀(l:List AV) (n:Nat) (cs:List AV) (i:Nat),n+cs.length≤l.length→(b9 l n cs)[i]? =if n≤i∧i < n+cs.length then cs[i - n]? else l[i]?
 |[],n,cs,i,h=>by
  simp at h
  obtain⟨rfl,rfl⟩:=h
  simp[b9]
 |a::r,0,[],i,_=>by
  rw[if_neg (by simp)]
  rfl
 |a::r,0,c::cs,i,h=>by
  simp only[b9]
  cases i with
  |zero=>simp
  |succ i=>
   have:=eZ r 0 cs i (by simp at h;omega)
   simp only[List.getElem?_cons_succ,this,List.length_cons]
   by_cases hi:i < cs.length
   ·rw[if_pos ⟨Nat.zero_le _,by omega⟩,if_pos ⟨Nat.zero_le _,by omega⟩]
    simp
   ·rw[if_neg (by omega),if_neg (by omega)]
 |a::r,n+1,cs,i,h=>by
  simp only[b9]
  cases i with
  |zero=>
   rw[if_neg (by omega)]
   rfl
  |succ i=>
   have:=eZ r n cs i (by simp at h;omega)
   simp only[List.getElem?_cons_succ,this]
   by_cases hi:n≤i∧i < n+cs.length
   ·rw[if_pos hi,if_pos (by omega)]
    rw[show i+1 - (n+1)=i - n from by omega]
   ·rw[if_neg hi,if_neg (by omega)]
theorem gB (g:Nat):∀(vs:List Value) (o:Nat) (cur:Array Value) (t:TypeId) (fr:Nat×Nat) (w:World),w.heap[g]? =some (.cells cur t fr)→o+vs.length≤cur.size→
  w6 w g (w.setCells g o vs)∧∃cur',(w.setCells g o vs).heap[g]? =some (.cells cur' t fr)∧cur'.size=cur.size∧∀i,cur'[i]? =if o≤i∧i < o+vs.length then vs[i - o]? else cur[i]?
 |[],o,cur,t,fr,w,hg,_=>⟨⟨rfl,rfl,rfl,rfl,fun _ _=>rfl⟩,cur,hg,rfl,fun i=>by rw[if_neg (by simp)]⟩
 |v::r,o,cur,t,fr,w,hg,hle=>by
  have hlt:g < w.heap.size:=(Array.getElem?_eq_some_iff.1 hg).1
  have hg1:(w.setCell ⟨g,o,none⟩ v).heap[g]? =some (.cells (cur.setIfInBounds o v) t fr):=by
   simp only[World.setCell,Array.getElem?_modify,hg]
   simp
  obtain⟨h1,cur',h2,h3,h4⟩:=gB g r (o+1) (cur.setIfInBounds o v) t fr (w.setCell ⟨g,o,none⟩ v) hg1 (by simp at hle ⊢;omega)
  refine⟨⟨h1.os,h1.tape,h1.output,by rw[World.setCells,h1.size];simp[World.setCell],fun k hk=>by rw[World.setCells,h1.other k hk];exact Below.heap_setCell w _ _ k hk⟩,cur',h2,by rw[h3];simp,?_⟩
  intro i
  rw[h4]
  simp only[List.length_cons]
  by_cases h5:o+1≤i∧i < o+1+r.length
  ·rw[if_pos h5,if_pos (by omega)]
   obtain⟨k,rfl⟩:∃k,i=o+1+k:=⟨i - (o+1),by omega⟩
   rw[show o+1+k - (o+1)=k from by omega,show o+1+k - o=k+1 from by omega]
   rfl
  ·rw[if_neg h5]
   by_cases h6:i=o
   ·subst h6
    rw[if_pos (by omega)]
    have:i < cur.size:=by simp at hle;omega
    simp[Array.getElem?_setIfInBounds,this]
   ·rw[if_neg (by omega),Array.getElem?_setIfInBounds_ne (by omega)]
theorem uR {P:Program} {τ:Tab} (hτ:TabOK P τ) {t:TypeId} {i:TI} (hi:aJ τ t=some i) {x y:Operand} {ty:TypeId} {ρ:Operand→AV} {M:aG} {id off:Nat} {l:List AV}
  (hx:ρ x=.ptr id off) (hM:M.get id=some (.cells l)) (hs:(ρ y).solid=true) (hn:(ρ y).cells.length=i.size) (hle:off+i.size≤l.length):
  F9 P (.store t x y) ty ρ M .top (M.set id (.cells (b9 l off (ρ y).cells))):=by
 intro μ F w ρc o hg ho ht hr
 have hrx:=hr x (by simp[Op.operands])
 have hry:=hr y (by simp[Op.operands])
 obtain⟨f,d,z,H⟩:=TI.spec hτ hi
 rw[hx] at hrx
 obtain⟨b,c,tb,hm,hv,hb,hsz,hone,hrep⟩:=p9 hg hM hrx
 obtain⟨h1,h2,h3⟩:=jU hry hs
 have hlen:(ρc y).cells.toList.length=i.size:=by rw[Array.length_toList,h1,hn]
 obtain⟨hw,c',hc',hs',hget⟩:=gB b (ρc y).cells.toList off c tb (0,0) w hb (by rw[hlen];omega)
 have hin:∀k v,c'[k]? =some v→(off≤k∧k < off+i.size∧(ρc y).cells[k - off]? =some v)∨(¬(off≤k∧k < off+i.size)∧c[k]? =some v):=by
  intro k v hk
  rw[hget,hlen] at hk
  split at hk
  ·rename_i h;exact .inl ⟨h.1,h.2,by simpa using hk⟩
  ·rename_i h;exact .inr ⟨h,hk⟩
 obtain⟨he,hG⟩:=lN hg hm hb hw (l:=b9 l off (ρ y).cells) hc' hs' (by rw[hs',hsz,bO]) (fun k v hk=>by
   rcases hin k v hk with ⟨_,_,h⟩|⟨_,h⟩
   ·exact h2 _ _ h
   ·exact hone _ _ h) (fun k q v hq hk=>by
   rw[eZ _ _ _ _ (by rw[hn];exact hle),hn] at hq
   rcases hin k v hk with ⟨ha,hb',h⟩|⟨hn',h⟩
   ·rw[if_pos ⟨ha,hb'⟩] at hq
    exact h3 _ _ _ hq h
   ·rw[if_neg hn'] at hq
    exact hrep _ _ _ hq h)
 refine⟨μ,.skip,undef,_,?_,.inr ⟨rfl,rfl⟩,he,hG,.top _⟩
 have hst:=run_storeCells_cells (P:=P) b off (ρc y).cells.toList 0 w (fun j hj=>by
   rw[cF hb,Nat.add_zero,Array.getElem?_eq_getElem (show off+j < c.size by rw[hsz];omega)]
   rfl) (fun j hj=>by simp[World.frozen?,hb]) (fun v hv=>by
   obtain⟨k,hk⟩:=List.getElem?_of_mem hv
   exact h2 k v (by simpa using hk))
 simp only[Nat.add_zero] at hst
 simp[execOp,ho,hv,Instr.storeAt,Instr.sureAddr,storeVar,run_sizeOf w H.info,H.cellsOf,H.size,h1,hn,hst]
end Go.Ab
namespace Go.Ab
open Go.RowKit
def gH (c:UInt8):AV:=.int .u8 c.toNat
def iI (sz:Nat):AV→Option (List AV)
 |.sl s xs _=>if s=sz then some xs else (match xs with|[]=>some []|_=>none)
 |.str l=>if sz=1 then some (l.map gH) else none
 |_=>none
def eG:TK→AV→Bool
 |.slice _,.sl _ _ _=>true
 |.str,.str _=>true
 |_,_=>false
theorem rI (l:List UInt8):b8 (l.map gH)=l.map gH:=by
 induction l with
 |nil=>rfl
 |cons c r ih=>
  simp only[b8,List.map_cons,List.flatMap_cons] at*
  rw[ih]
  rfl
theorem uC {P:Program} {τ:Tab} (hτ:TabOK P τ) {t:TypeId} {i:TI} (hi:aJ τ t=some i) {x:AV} (hf:eG i.k x=true) {sz:Nat} {ys:List AV} (hs:iI sz x=some ys)
  {μ:Mu} {F:c8} {w:World} {v:Value} (hr:bP μ F w x v):
  (∀y,y∈ys→y.cells.length=sz)∧∃news:List Value,Src P sz t v ys.length news w∧∀(p:Nat) (c:AV) (u:Value),(b8 ys)[p]? =some c→news[p]? =some u→bP μ F w c u:=by
 obtain⟨f,d,z,H⟩:=TI.spec hτ hi
 have hfit:=H.fits
 cases x with
 |sl s xs tg=>
  obtain⟨A,cap,b,o,vals,rfl,hsz,hcap,hA,hat,htag⟩:=hr.sl_flat
  obtain⟨e,hd⟩:∃e,d=.slice e:=by
   generalize i.k=kk at hf hfit
   cases kk<;>simp[eG] at hf
   cases d<;>simp[TK.fits] at hfit
   exact⟨_,rfl⟩
  subst hd
  have hu:=H.und
  unfold iI at hs
  cases xs with
  |nil=>
   have hys:ys=[]:=by
    simp only at hs
    split at hs<;>cases hs<;>rfl
   subst hys
   refine⟨by simp,[],⟨.inl ⟨e,hu⟩,fun _=>rfl,?_,?_,by simp,by simp⟩,by simp[b8]⟩
   ·cases A with
    |none=>rfl
    |some a=>simp[Builtin.firstCells,loadCells,loadCellsFrom]
   ·cases A with
    |none=>rfl
    |some a=>simp[Builtin.firstCells,loadCells,loadCellsFrom]
  |cons x0 r=>
   by_cases hss:s=sz
   case neg=>simp[hss] at hs
   simp only[hss,if_true,Option.some.injEq] at hs
   subst hs
   subst hss
   have hA':=hA (by simp)
   subst hA'
   have hl:=bZ hsz
   obtain⟨h1,h2⟩:=pC (vals:=vals) hat
   refine⟨hsz,(List.range (b8 (x0::r)).length).map vals,?_,?_⟩
   ·exact Src.ofSlice w hu _ _ _ _ (by rw[List.length_map,List.length_range,hl]) h1 h2
   ·intro p c u hc hu'
    have hp:p < (b8 (x0::r)).length:=(List.getElem?_eq_some_iff.1 hc).1
    rw[List.getElem?_map,List.getElem?_range hp] at hu'
    simp at hu'
    subst hu'
    exact (hat p c hc).rep
 |str l=>
  unfold iI at hs
  by_cases h1:sz=1
  case neg=>simp[h1] at hs
  simp only[h1,if_true,Option.some.injEq] at hs
  subst hs
  subst h1
  have hd:d=.string:=by
   generalize i.k=kk at hf hfit
   cases kk<;>simp[eG] at hf
   cases d<;>simp[TK.fits] at hfit
   rfl
  subst hd
  cases hr
  refine⟨?_,byteCells ⟨l.toArray⟩,?_,?_⟩
  ·intro y hy
   obtain⟨c,_,rfl⟩:=List.mem_map.1 hy
   rfl
  ·have:=Src.ofString w H.und ⟨l.toArray⟩
   rw[nH] at this
   simpa using this
  ·intro p c u hc hu
   rw[rI] at hc
   simp only[byteCells,List.getElem?_map] at hc hu
   cases e:l[p]? with
   |none=>simp[e] at hc
   |some q=>
    simp[e] at hc hu
    subst hc;subst hu
    exact .int _ _
 |_=>simp[iI] at hs
theorem pH {P:Program} {t tx ty e:TypeId} {i:TypeInfo} (ht:P.underlying t=some (.slice e)) (hi:P.info? e=some i) {A:Option Addr} {n cap:Nat} {x:Value} {w:World} (hs:Src P i.size tx x 0 [] w) (h:n≤cap):
  (Builtin.append_ #[t,tx] ty #[.slice A n cap,x]).run P w=.ok (.slice A n cap) w:=by
 rcases hs.kind with ⟨e',hk⟩|hk<;>cases A<;>simp[Builtin.append_,run_underlying ht,run_underlying hk,sizeOf,typeInfo,hi,hs.len,h,hs.cells,storeCells]
theorem j0 {z:Array Value} (h:∀u∈z,u.oneCell'=true) (hz:0 < z.size) (n:Nat):∀u∈Builtin.zeroCells z n,u.oneCell'=true:=by
 intro u hu
 unfold Builtin.zeroCells at hu
 obtain⟨k,hk,rfl⟩:=Array.mem_map.1 hu
 have:k%z.size < z.size:=Nat.mod_lt _ hz
 rw[getElem!_pos z (k%z.size) this]
 exact h _ (Array.getElem_mem this)
theorem At.later {μ μ':Mu} {F:c8} {w w':World} (hev:dQ w μ w' μ') {b o:Nat} {c:AV} {v:Value} (h:At μ F w b o c v):At μ' F w' b o c v:=
 ⟨h.one,hev.cell h.cell h.free.2,hev.free (t1 h.cell) h.free,h.rep.evo hev⟩
theorem fA (xs ys:List AV):b8 (xs++ys)=b8 xs++b8 ys:=by simp[b8]
structure pY (P:Program) (τ:Tab) (t e:TypeId) (ti ei:TI):Prop where
 tl:aJ τ t=some ti
 tk:ti.k=.slice e
 el:aJ τ e=some ei
 pos:0 < ei.size
theorem HA {P:Program} {τ:Tab} (hτ:TabOK P τ) {t tx ty e:TypeId} {ti ei:TI} (hin:pY P τ t e ti ei) {μ:Mu} {F:c8} {M:aG} {w:World} (hg:dY μ F M w)
  {A:Option Addr} {cap b o:Nat} {vals:Nat→Value} {xs ys:List AV} (hsx:∀x,x∈xs→x.cells.length=ei.size) (hsy:∀x,x∈ys→x.cells.length=ei.size)
  (hA:0 < xs.length→A=some ⟨b,o,none⟩) (hat:∀(p:Nat) (c:AV),(b8 xs)[p]? =some c→At μ F w b (o+p) c (vals p))
  {x:Value} {news:List Value} (hsrc:Src P ei.size tx x ys.length news w) (hnew:∀(p:Nat) (c:AV) (u:Value),(b8 ys)[p]? =some c→news[p]? =some u→bP μ F w c u)
  (hgrow:cap < xs.length+ys.length) (hb:(xs.length+ys.length)*ei.bytes≤140737488355328) (hl:xs.length+ys.length≤140737488355328)
  {id g:Nat} (hid:(id=M.next∧g=0)∨∃q g0,M.get id=some (.spare g0)∧μ id=some (.spare q g0)∧g0 < g):
  ∃μ' v w',(Builtin.append_ #[t,tx] ty #[.slice A xs.length cap,x]).run P w=.ok v w'∧dQ w μ w' μ'∧
   (∀M',M'.next=(if id=M.next then M.next+1 else M.next)→(∀i,M'.get i=if i=id then some (.spare g) else M.get i)→dY μ' F M' w')∧bP μ' F w' (.sl ei.size (xs++ys) (.tok id g)) v:=by
 obtain⟨ft,dt,zt,HT⟩:=TI.spec hτ hin.tl
 obtain⟨fe,de,ze,HE⟩:=TI.spec hτ hin.el
 have hf:=HT.fits
 rw[hin.tk] at hf
 have hdd:dt=.slice e:=by
  cases dt<;>simp[TK.fits] at hf
  rw[hf]
 subst hdd
 have hlx:=bZ hsx
 have hly:=bZ hsy
 have hnl:=hsrc.newsLen
 obtain⟨hv1,hv2⟩:=pC (vals:=vals) hat
 let olds:=(List.range (b8 xs).length).map vals
 have hol:olds.length=xs.length*ei.size:=by simp[olds,hlx]
 have hold:(Builtin.firstCells fe.size xs.length (.slice A xs.length cap)).run P w.drew=.ok olds.toArray w.drew:=by
  rw[HE.size]
  cases A with
  |none=>
   have h0:xs=[]:=by
    cases xs with
    |nil=>rfl
    |cons a r=>have:=hA (by simp);cases this
   subst h0
   simp[Builtin.firstCells,olds,b8]
  |some a=>
   by_cases h0:0 < xs.length
   ·have:=hA h0
    cases this
    exact run_firstCells_some w.drew ei.size xs.length _ _ _ olds hol (fun j u hu=>hv1 j u hu)
   ·have:xs=[]:=List.eq_nil_of_length_eq_zero (by omega)
    subst this
    simp[Builtin.firstCells,loadCells,loadCellsFrom,olds,b8]
 have hsrc':Src P fe.size tx x ys.length news w:=by rw[HE.size];exact hsrc
 have hfit:Builtin.nextslicecap (xs.length+ys.length) cap*fe.bytes≤281474976710656:=by
  rw[HE.bytes]
  exact growslice_fits hgrow hb
 have hrun:=run_append_grow_src (P:=P) w t tx ty e fe ze HT.und HE.info HE.zero A xs.length cap olds hold x ys.length news hsrc' hgrow (by omega) hfit
 have hge:=grownCap_ge w (xs.length+ys.length) cap e
 generalize hcap:grownCap w (xs.length+ys.length) cap e=cap' at hrun hge
 let c':Array Value:=(olds++news).toArray++Builtin.zeroCells ze.cells (cap' - (xs.length+ys.length))
 let w':World:=w.drew.alloc (.cells c' e)
 have hzs:ze.cells.size=ei.size:=by
  have:=(bV HE.cells).1
  simp only[Array.length_toList] at this
  rw[this,HE.len]
 have hc's:c'.size=cap'*ei.size:=by
  simp only[c',Array.size_append,List.size_toArray,List.length_append,hol,hnl,size_zeroCells,hzs,←Nat.add_mul]
  rw[Nat.add_sub_cancel' hge]
 have hheap:w'.heap[w.heap.size]? =some (.cells c' e (0,0)):=heap_alloc_new w.drew _
 have hbelow:Below w.heap.size w w':=⟨rfl,rfl,rfl,by simp[w',World.alloc],fun k hk=>heap_alloc_old w.drew _ hk⟩
 have hfl:(xs.length+ys.length)*ei.size≤c'.size:=by rw[hc's];exact Nat.mul_le_mul_right _ hge
 obtain⟨hev,hG⟩:=tK hg (w':=w') (p:=some (w.heap.size,(xs.length+ys.length)*ei.size)) rfl rfl rfl hbelow.size (id:=id) (g:=g) (by
   rcases hid with ⟨h1,_⟩|⟨q,g0,h1,h2,h3⟩
   ·exact .inl ⟨h1,fun k hk=>hbelow.block k hk⟩
   ·exact .inr ⟨q,g0,h1,h2,h3,fun k hk _=>hbelow.block k hk,fun k e hq c ty fr hc=>by
     have hk:k < w.heap.size:=(Array.getElem?_eq_some_iff.1 hc).1
     exact⟨c,(hbelow.block k hk).trans hc,rfl,fun _ _=>rfl⟩⟩) (by
   intro b' e' hbe
   cases hbe
   exact⟨⟨c',e,(0,0),hheap,hfl,fun o _ h=>by simp at h⟩,.inl (Nat.le_refl _)⟩)
 refine⟨_,_,w',hrun,hev,hG,?_⟩
 have hflat:(b8 (xs++ys)).length=(xs.length+ys.length)*ei.size:=by rw[fA,List.length_append,hlx,hly,Nat.add_mul]
 have hR:=r4 (μ:=μ.put id (.spare (some (w.heap.size,(xs.length+ys.length)*ei.size)) g)) (F:=F) (w:=w') (sz:=ei.size) (xs:=xs++ys) (t:=.tok id g) (A:=some ⟨w.heap.size,0,none⟩) (cap:=cap') (b:=w.heap.size) (o:=0)
  (vals:=fun p=>(olds++news).getD p undef) (by
   intro y hy
   rcases List.mem_append.1 hy with h|h
   ·exact hsx y h
   ·exact hsy y h) (by rw[List.length_append];exact hge) (fun _=>rfl) (by
   intro p c hc
   have hp:p < (xs.length+ys.length)*ei.size:=by rw[←hflat];exact (List.getElem?_eq_some_iff.1 hc).1
   have hon:(olds++news).length=(xs.length+ys.length)*ei.size:=by rw[List.length_append,hol,hnl,Nat.add_mul]
   have hval:(olds++news)[p]? =some ((olds++news).getD p undef):=by
    have:p < (olds++news).length:=by omega
    simp[List.getD_eq_getElem?_getD,List.getElem?_eq_getElem this]
   have hcell:c'[p]? =some ((olds++news).getD p undef):=by
    simp only[c']
    rw[Array.getElem?_append_left (by rw[List.size_toArray];omega)]
    simpa using hval
   have hrep:bP μ F w c ((olds++news).getD p undef)∧((olds++news).getD p undef).oneCell'=true:=by
    rw[fA] at hc
    by_cases hpx:p < (b8 xs).length
    ·rw[List.getElem?_append_left hpx] at hc
     rw[List.getElem?_append_left (by rw[hol,←hlx];exact hpx)] at hval
     simp only[olds,List.getElem?_map,List.getElem?_range hpx,Option.map_some,Option.some.injEq] at hval
     rw[←hval]
     exact⟨(hat p c hc).rep,(hat p c hc).one⟩
    ·rw[List.getElem?_append_right (by omega)] at hc
     rw[List.getElem?_append_right (by rw[hol,←hlx];omega),hol,←hlx] at hval
     exact⟨hnew _ c _ hc hval,hsrc.one _ (List.mem_of_getElem? hval)⟩
   refine⟨hrep.2,?_,?_,hrep.1.evo hev⟩
   ·rw[Nat.zero_add,cF hheap]
    exact hcell
   ·refine⟨fun hF=>by have:=hg.fit.frm _ _ hF;omega,?_⟩
    rintro⟨i,h1|⟨e',g',h1,he⟩⟩
    ·unfold Mu.put at h1
     split at h1
     ·cases h1
     ·have:=hg.fit.own w.heap.size 0 ⟨i,.inl h1⟩
      omega
    ·unfold Mu.put at h1
     split at h1
     ·cases h1
      omega
     ·have:=hg.fit.own w.heap.size e' ⟨i,.inr ⟨e',g',h1,Nat.le_refl _⟩⟩
      omega) (by
   refine .inr ⟨some (w.heap.size,(xs.length+ys.length)*ei.size),g,by simp[Mu.put],Nat.le_refl _,fun _=>⟨rfl,by rw[List.length_append],c',e,(0,0),hheap,by rw[hc's];exact Nat.le_refl _⟩⟩)
 rw[List.length_append] at hR
 exact hR
end Go.Ab
namespace Go.Ab
open Go.RowKit
theorem GD {P:Program} {τ:Tab} (hτ:TabOK P τ) {t tx ty e:TypeId} {ti ei:TI} (hin:pY P τ t e ti ei) {μ:Mu} {F:c8} {M:aG} {w:World} (hg:dY μ F M w)
  {b cap:Nat} {vals:Nat→Value} {xs ys:List AV} (hsx:∀x,x∈xs→x.cells.length=ei.size) (hsy:∀x,x∈ys→x.cells.length=ei.size)
  (hat:∀(p:Nat) (c:AV),(b8 xs)[p]? =some c→At μ F w b p c (vals p))
  {x:Value} {news:List Value} (hsrc:Src P ei.size tx x ys.length news w) (hnew:∀(p:Nat) (c:AV) (u:Value),(b8 ys)[p]? =some c→news[p]? =some u→bP μ F w c u)
  (hroom:xs.length+ys.length≤cap) {id g0:Nat} (hM:M.get id=some (.spare g0)) (hid:μ id=some (.spare (some (b,xs.length*ei.size)) g0))
  {c:Array Value} {tb:TypeId} {fr:Nat×Nat} (hb:w.heap[b]? =some (.cells c tb fr)) (hcap:cap*ei.size≤c.size) (hsoft:a6k fr c.size):
  ∃μ' v w',(Builtin.append_ #[t,tx] ty #[.slice (some ⟨b,0,none⟩) xs.length cap,x]).run P w=.ok v w'∧dQ w μ w' μ'∧
   (∀M',M'.next=(if id=M.next then M.next+1 else M.next)→(∀i,M'.get i=if i=id then some (.spare (g0+1)) else M.get i)→dY μ' F M' w')∧bP μ' F w' (.sl ei.size (xs++ys) (.tok id (g0+1))) v:=by
 obtain⟨ft,dt,zt,HT⟩:=TI.spec hτ hin.tl
 obtain⟨fe,de,ze,HE⟩:=TI.spec hτ hin.el
 have hf:=HT.fits
 rw[hin.tk] at hf
 have hdd:dt=.slice e:=by
  cases dt<;>simp[TK.fits] at hf
  rw[hf]
 subst hdd
 have hlx:=bZ hsx
 have hly:=bZ hsy
 have hnl:=hsrc.newsLen
 have hsrc':Src P fe.size tx x ys.length news w:=by rw[HE.size];exact hsrc
 have hfl:(xs.length+ys.length)*ei.size≤c.size:=Nat.le_trans (Nat.mul_le_mul_right _ hroom) hcap
 have hfl':xs.length*ei.size+news.length≤c.size:=by rw[hnl,←Nat.add_mul];exact hfl
 have hrun:=run_append_room_src (P:=P) w t tx ty e fe HT.und HE.info b 0 xs.length cap x ys.length news hsrc' hroom (fun j hj=>by
   rw[HE.size,cF hb,Nat.zero_add,Array.getElem?_eq_getElem (by omega)];rfl) (fun j hj=>by
   rw[HE.size]
   have hs:=hsoft (0+xs.length*ei.size+j) (by omega)
   simp only[World.frozen?,hb]
   simp only[Bool.and_eq_false_iff,decide_eq_false_iff_not]
   rcases Nat.lt_or_ge (0+xs.length*ei.size+j) fr.1 with h|h
   ·exact .inl (by omega)
   ·exact .inr (fun h'=>hs ⟨h,h'⟩))
 rw[HE.size,Nat.zero_add] at hrun
 obtain⟨hw,c',hc',hs',hget⟩:=gB b news (xs.length*ei.size) c tb fr w hb hfl'
 obtain⟨hev,hG⟩:=tK hg (w':=w.setCells b (xs.length*ei.size) news) (p:=some (b,(xs.length+ys.length)*ei.size)) hw.os hw.tape hw.output (Nat.le_of_eq hw.size.symm) (id:=id) (g:=g0+1) (.inr
   ⟨some (b,xs.length*ei.size),g0,hM,hid,Nat.lt_succ_self _,fun k hk hne=>hw.other k (fun e=>hne (xs.length*ei.size) (by rw[e])),fun k e' hq c1 ty1 fr1 hc1=>by
    cases hq
    rw[hb] at hc1
    cases hc1
    exact⟨c',hc',hs',fun o ho=>by rw[hget,if_neg (by omega)]⟩⟩) (by
   intro b' e' hbe
   cases hbe
   exact⟨⟨c',tb,fr,hc',by rw[hs'];exact hfl,by rw[hs'];exact hsoft⟩,.inr ⟨xs.length*ei.size,g0,hid,Nat.mul_le_mul_right _ (Nat.le_add_right _ _)⟩⟩)
 refine⟨_,_,_,hrun,hev,hG,?_⟩
 have hR:=r4 (μ:=μ.put id (.spare (some (b,(xs.length+ys.length)*ei.size)) (g0+1))) (F:=F) (w:=w.setCells b (xs.length*ei.size) news) (sz:=ei.size) (xs:=xs++ys) (t:=.tok id (g0+1)) (A:=some ⟨b,0,none⟩) (cap:=cap) (b:=b) (o:=0)
  (vals:=fun p=>c'.getD p undef) (by
   intro y hy
   rcases List.mem_append.1 hy with h|h
   ·exact hsx y h
   ·exact hsy y h) (by rw[List.length_append];exact hroom) (fun _=>rfl) (by
   intro p q hq
   have hp:p < (xs.length+ys.length)*ei.size:=by
    have:=(List.getElem?_eq_some_iff.1 hq).1
    rwa [fA,List.length_append,hlx,hly,←Nat.add_mul] at this
   have hval:c'[p]? =some (c'.getD p undef):=by
    have:p < c'.size:=by omega
    simp[Array.getD,this]
   have hrep:bP μ F w q (c'.getD p undef)∧(c'.getD p undef).oneCell'=true:=by
    have hv:=hval
    rw[hget] at hv
    rw[fA] at hq
    by_cases hpx:p < (b8 xs).length
    ·rw[List.getElem?_append_left hpx] at hq
     rw[if_neg (by omega)] at hv
     have ha:=hat p q hq
     have hcell:=ha.cell
     rw[cF hb,hv] at hcell
     injection hcell with hcell
     rw[hcell]
     exact⟨ha.rep,ha.one⟩
    ·rw[List.getElem?_append_right (by omega)] at hq
     have hnp:p - (b8 xs).length < news.length:=by
      have:=(List.getElem?_eq_some_iff.1 hq).1
      rw[hnl,←hly]
      exact this
     rw[if_pos (by omega),←hlx] at hv
     exact⟨hnew _ q _ hq hv,hsrc.one _ (List.mem_of_getElem? hv)⟩
   refine⟨hrep.2,by rw[Nat.zero_add,cF hc'];exact hval,?_,hrep.1.evo hev⟩
   have hbl:b < w.heap.size:=(Array.getElem?_eq_some_iff.1 hb).1
   refine⟨hg.frm b p |> fun h hF=>?_,?_⟩
   ·by_cases hpx:p < (b8 xs).length
    ·rw[fA,List.getElem?_append_left hpx] at hq
     exact (hat p q hq).free.1 (by simpa using hF)
    ·exact h ⟨id,.inr ⟨_,g0,hid,by omega⟩⟩ (by simpa using hF)
   ·rintro⟨i,h1|⟨e',g',h1,he⟩⟩
    ·unfold Mu.put at h1
     split at h1
     ·cases h1
     ·rename_i hi
      exact hi (hg.inj i id b (.inl h1) (.inr ⟨_,_,hid⟩))
    ·unfold Mu.put at h1
     split at h1
     ·cases h1
      omega
     ·rename_i hi
      exact hi (hg.inj i id b (.inr ⟨_,_,h1⟩) (.inr ⟨_,_,hid⟩))) (by
   refine .inr ⟨some (b,(xs.length+ys.length)*ei.size),g0+1,by simp[Mu.put],Nat.le_refl _,fun _=>⟨rfl,by rw[List.length_append],c',tb,fr,hc',by rw[hs'];exact hcap⟩⟩)
 rw[List.length_append] at hR
 exact hR
theorem GM {μ:Mu} {F:c8} {M:aG} {w:World} (hg:dY μ F M w) {sz:Nat} {xs:List AV} {A:Option Addr} {tag:eE} {cap:Nat} (hr:bP μ F w (.sl sz xs tag) (.slice A xs.length cap)) (hc:cap=xs.length)
  {sz':Nat} (hsx:sz'=sz∨xs=[]) {id g:Nat} (hid:(id=M.next∧g=0)∨∃q g0,M.get id=some (.spare g0)∧μ id=some (.spare q g0)∧g0 < g):
  ∃μ',dQ w μ w μ'∧(∀M',M'.next=(if id=M.next then M.next+1 else M.next)→(∀i,M'.get i=if i=id then some (.spare g) else M.get i)→dY μ' F M' w)∧bP μ' F w (.sl sz' xs (.tok id g)) (.slice A xs.length cap):=by
 obtain⟨hev,hG⟩:=tK hg (w':=w) (p:=none) rfl rfl rfl (Nat.le_refl _) (id:=id) (g:=g) (by
   rcases hid with ⟨h1,_⟩|⟨q,g0,h1,h2,h3⟩
   ·exact .inl ⟨h1,fun _ _=>rfl⟩
   ·exact .inr ⟨q,g0,h1,h2,h3,fun _ _ _=>rfl,fun k e hq c ty fr hc=>⟨c,hc,rfl,fun _ _=>rfl⟩⟩) (by intro b e h;cases h)
 refine⟨_,hev,hG,?_⟩
 have hr':=hr.evo hev
 obtain⟨A',cap',b,o,vals,hv,hsz,hcap,hA,hat,htag⟩:=hr'.sl_flat
 cases hv
 refine r4 (b:=b) (o:=o) (vals:=vals) ?_ hcap hA hat (.inr ⟨none,g,by simp[Mu.put],Nat.le_refl _,fun _=>hc⟩)
 rcases hsx with rfl|rfl
 ·exact hsz
 ·simp
theorem xY {P:Program} {τ:Tab} (hτ:TabOK P τ) {t tx e:TypeId} {ti ei xi:TI} (hin:pY P τ t e ti ei) (hxi:aJ τ tx=some xi) {s x:Operand} {ty:TypeId} {ρ:Operand→AV} {M M':aG}
  {sz:Nat} {xs ys:List AV} {tag:eE} (hS:ρ s=.sl sz xs tag) (hsz:sz=ei.size∨xs=[]) (hf:eG xi.k (ρ x)=true) (hX:iI ei.size (ρ x)=some ys)
  (hb:(xs.length+ys.length)*ei.bytes≤140737488355328) (hl:xs.length+ys.length≤140737488355328) {id g:Nat}
  (hid:(tag=.full∧id=M.next∧g=0∧M'=M.push (.spare 0))∨∃g0,sz=ei.size∧tag=.tok id g0∧M.get id=some (.spare g0)∧g=g0+1∧M'=M.set id (.spare g)):
  F9 P (.call {callee:=.builtin .append,args:=#[s,x],argTypes:=#[t,tx]}) ty ρ M (.sl ei.size (xs++ys) (.tok id g)) M':=by
 intro μ F w ρc o hg ho hty hr
 have hs:=hr s (by simp[Op.operands,Call.operands])
 have hx:=hr x (by simp[Op.operands,Call.operands])
 rw[hS] at hs
 obtain⟨hsy,news,hsrc,hnew⟩:=uC hτ hxi hf hX hx
 have hM':M'.next=(if id=M.next then M.next+1 else M.next)∧∀i,M'.get i=if i=id then some (.spare g) else M.get i:=by
  rcases hid with ⟨_,rfl,rfl,rfl⟩|⟨g0,_,_,hM,rfl,rfl⟩
  ·exact⟨by simp[aG.push],fun i=>aG.get_push _ _ _⟩
  ·refine⟨?_,fun i=>aG.get_set _ _ _ _⟩
   have:id < M.next:=by
    obtain⟨p,h1,_⟩:=hg.spare id g0 hM
    exact (hg.dom id).1 (by rw[h1];simp)
   rw[if_neg (by omega)]
   rfl
 have hrun:∀v w',(Builtin.append_ #[t,tx] o.type #[ρc s,ρc x]).run P w=.ok v w'→(execOp ρc o).run P w=.ok (.value v) w':=by
  intro v w' h
  simp[execOp,ho,resolve,invoke,builtin,h]
 suffices h:∃μ' v w',(Builtin.append_ #[t,tx] o.type #[ρc s,ρc x]).run P w=.ok v w'∧dQ w μ w' μ'∧
   (∀M',M'.next=(if id=M.next then M.next+1 else M.next)→(∀i,M'.get i=if i=id then some (.spare g) else M.get i)→dY μ' F M' w')∧bP μ' F w' (.sl ei.size (xs++ys) (.tok id g)) v by
  obtain⟨μ',v,w',h1,h2,h3,h4⟩:=h
  exact⟨μ',.value v,v,w',hrun v w' h1,.inl rfl,h2,h3 M' hM'.1 hM'.2,h4⟩
 have hs0:=hs
 obtain⟨A,cap,b,off,vals,hv,hsx0,hcap,hA,hat,htag⟩:=hs.sl_flat
 rw[hv] at hs0
 have hsx:∀y,y∈xs→y.cells.length=ei.size:=by
  rcases hsz with rfl|rfl
  ·exact hsx0
  ·simp
 rw[hv]
 have hid':(id=M.next∧g=0)∨∃q g0,M.get id=some (.spare g0)∧μ id=some (.spare q g0)∧g0 < g:=by
  rcases hid with ⟨_,h1,h2,_⟩|⟨g0,_,_,hM,rfl,_⟩
  ·exact .inl ⟨h1,h2⟩
  ·obtain⟨p,h1,_⟩:=hg.spare id g0 hM
   exact .inr ⟨p,g0,hM,h1,Nat.lt_succ_self _⟩
 by_cases hgrow:cap < xs.length+ys.length
 ·exact HA hτ hin hg hsx hsy hA hat hsrc hnew hgrow hb hl hid'
 ·-- there is room: nothing comes, or the room is ours
  have none_:cap=xs.length→∃μ' v w',(Builtin.append_ #[t,tx] o.type #[.slice A xs.length cap,ρc x]).run P w=.ok v w'∧dQ w μ w' μ'∧
    (∀M',M'.next=(if id=M.next then M.next+1 else M.next)→(∀i,M'.get i=if i=id then some (.spare g) else M.get i)→dY μ' F M' w')∧bP μ' F w' (.sl ei.size (xs++ys) (.tok id g)) v:=by
   intro hc
   have hy:ys=[]:=List.eq_nil_of_length_eq_zero (by omega)
   subst hy
   have hn:news=[]:=by
    have:=hsrc.newsLen
    simp at this
    exact this
   subst hn
   obtain⟨ft,dt,zt,HT⟩:=TI.spec hτ hin.tl
   obtain⟨fe,de,ze,HE⟩:=TI.spec hτ hin.el
   have hfi:=HT.fits
   rw[hin.tk] at hfi
   have hdd:dt=.slice e:=by
    cases dt<;>simp[TK.fits] at hfi
    rw[hfi]
   subst hdd
   obtain⟨μ',h1,h2,h3⟩:=GM hg hs0 hc (hsz.imp Eq.symm (fun h=>h)) hid'
   refine⟨μ',_,w,pH HT.und HE.info (by rw[HE.size];exact hsrc) (by omega),h1,h2,?_⟩
   rw[List.append_nil]
   exact h3
  rcases hid with ⟨rfl,rfl,rfl,rfl⟩|⟨g0,hsze,rfl,hM,rfl,rfl⟩
  ·exact none_ htag
  ·obtain⟨p,hp,hpb⟩:=hg.spare id g0 hM
   rcases htag with hd|⟨q,g',hq,hle,hroom⟩
   ·rw[hp] at hd;cases hd
   ·rw[hp] at hq
    cases hq
    have hro:=hroom rfl
    cases p with
    |none=>exact none_ hro
    |some be=>
     obtain⟨b',e'⟩:=be
     obtain⟨hA',he',c,tb,fr,hc,hcs⟩:=hro
     obtain⟨c2,tb2,fr2,hc2,_,hsoft⟩:=hpb b' e' rfl
     rw[hc] at hc2
     cases hc2
     subst hsze
     subst he'
     have hat':∀(p:Nat) (c:AV),(b8 xs)[p]? =some c→At μ F w b' p c (vals p):=by
      intro p c h
      have h1:0 < xs.length:=by
       rcases Nat.eq_zero_or_pos xs.length with h0|h0
       ·rw[List.eq_nil_of_length_eq_zero h0] at h
        simp[b8] at h
       ·exact h0
      have h2:=hA h1
      rw[h2] at hA'
      cases hA'
      have:=hat p c h
      rwa [Nat.zero_add] at this
     rw[hA']
     exact GD hτ hin hg hsx hsy hat' hsrc hnew (by omega) hM hp hc hcs hsoft
end Go.Ab
