/- Parts of the proof, one behind the other. No further condition. -/
import Derived.Calls
import Derived.Orders
import Derived.Below
import Derived.Tactics
import Derived.Deep.Draws
import Derived.OwnWalk
import Derived.WalkKit
set_option linter.unusedVariables false
set_option linter.unusedSimpArgs false
set_option maxRecDepth 100000
set_option maxHeartbeats 8000000
namespace Go.Ab
open Go.RowKit
inductive eE where
 |none
 |full
 |tok (id g:Nat)
inductive AV where
 |int (k:IntKind) (n:Int)
 |bool (b:Bool)
 |str (s:List UInt8)
 |sl (sz:Nat) (xs:List AV) (t:eE)
 |ptr (id off:Nat)
 |ref (cells:List AV)
 |nilptr
 |nilIface
 |iface (t:TypeId) (v:AV)
 |nilFunc
 |fn (f:Fn) (first captured:List AV)
 |agg (cells:List AV)
 |tup (vs:List AV)
 |map (id:Nat)
 |nilmap
 |osl (id off n cap sz:Nat)
 |yld (id:Nat)
 |bsl (id g n cap:Nat)
 |top
instance:Inhabited AV:=⟨.top⟩
def AV.cells:AV→List AV
 |.agg cs=>cs
 |v=>[v]
inductive Loc where
 |at (b:Nat)
 |spare (p:Option (Nat×Nat)) (g:Nat)
 |dead
abbrev Mu:=Nat→Option Loc
abbrev c8:=Nat→Nat→Prop
def jG (μ:Mu) (b o:Nat):Prop:=∃id,μ id=some (.at b)∨∃e g,μ id=some (.spare (some (b,e)) g)∧e≤o
def iO (μ:Mu) (F:c8) (b o:Nat):Prop:=¬F b o∧¬jG μ b o
def F5 (w:World) (A:Option Addr) (n cap sz:Nat):Option (Nat×Nat)→Prop
 |none=>cap=n
 |some (b,e)=>A=some ⟨b,0,none⟩∧n*sz=e∧∃c ty fr,w.heap[b]? =some (.cells c ty fr)∧cap*sz≤c.size
def mS (μ:Mu) (w:World) (A:Option Addr) (n cap sz:Nat):eE→Prop
 |.none=>True
 |.full=>cap=n
 |.tok id g=>μ id=some .dead∨∃p g',μ id=some (.spare p g')∧g≤g'∧(g=g'→F5 w A n cap sz p)
inductive bP (μ:Mu) (F:c8) (w:World):AV→Value→Prop where
 |int (k:IntKind) (n:Int):bP μ F w (.int k n) (.int k n)
 |bool (b:Bool):bP μ F w (.bool b) (.bool b)
 |str (s:List UInt8):bP μ F w (.str s) (.string ⟨s.toArray⟩)
 |sl (sz:Nat) (xs:List AV) (t:eE) (A:Option Addr) (cap:Nat) (ad:Addr) (vals:Nat→Value)
   (hsz:∀x,x∈xs→x.cells.length=sz) (hcap:xs.length≤cap)
   (hA:0 < xs.length→A=some ad∧ad.spot=none)
   (hone:∀(i:Nat) (x:AV) (j:Nat) (c:AV),xs[i]? =some x→x.cells[j]? =some c→(vals (i*sz+j)).oneCell'=true)
   (hcell:∀(i:Nat) (x:AV) (j:Nat) (c:AV),xs[i]? =some x→x.cells[j]? =some c→w.cell? ⟨ad.block,ad.off+(i*sz+j),none⟩=some (vals (i*sz+j))∧iO μ F ad.block (ad.off+(i*sz+j)))
   (hrep:∀(i:Nat) (x:AV) (j:Nat) (c:AV),xs[i]? =some x→x.cells[j]? =some c→bP μ F w c (vals (i*sz+j)))
   (htag:mS μ w A xs.length cap sz t):bP μ F w (.sl sz xs t) (.slice A xs.length cap)
 |ptr (id off:Nat) (v:Value) (h1:v.oneCell'=true) (h:μ id≠none) (hv:∀b,μ id=some (.at b)→v=.pointer (some ⟨b,off,none⟩)):bP μ F w (.ptr id off) v
 |ref (cells:List AV) (b o:Nat) (vals:Nat→Value)
   (hone:∀(j:Nat) (c:AV),cells[j]? =some c→(vals j).oneCell'=true)
   (hcell:∀(j:Nat) (c:AV),cells[j]? =some c→w.cell? ⟨b,o+j,none⟩=some (vals j)∧iO μ F b (o+j))
   (hrep:∀(j:Nat) (c:AV),cells[j]? =some c→bP μ F w c (vals j)):bP μ F w (.ref cells) (.pointer (some ⟨b,o,none⟩))
 |nilptr:bP μ F w .nilptr (.pointer none)
 |nilIface:bP μ F w .nilIface .nilIface
 |iface (t:TypeId) (x:AV) (v:Value) (h:bP μ F w x v):bP μ F w (.iface t x) (.iface t v)
 |nilFunc:bP μ F w .nilFunc .nilFunc
 |fn (f:Fn) (l1 l2:List AV) (c1 c2:Array Value) (hs1:c1.size=l1.length) (hs2:c2.size=l2.length)
   (h1:∀(i:Nat) (x:AV) (v:Value),l1[i]? =some x→c1[i]? =some v→bP μ F w x v) (h2:∀(i:Nat) (x:AV) (v:Value),l2[i]? =some x→c2[i]? =some v→bP μ F w x v):
   bP μ F w (.fn f l1 l2) (.func f c1 c2)
 |agg (l:List AV) (c:Array Value) (hs:c.size=l.length) (h:∀(i:Nat) (x:AV) (v:Value),l[i]? =some x→c[i]? =some v→bP μ F w x v)
   (hone:∀(i:Nat) (v:Value),c[i]? =some v→v.oneCell'=true):bP μ F w (.agg l) (.agg c)
 |tup (l:List AV) (c:Array Value) (hs:c.size=l.length) (h:∀(i:Nat) (x:AV) (v:Value),l[i]? =some x→c[i]? =some v→bP μ F w x v):
   bP μ F w (.tup l) (.tuple c)
 |map (id:Nat) (v:Value) (h1:v.oneCell'=true) (h:μ id≠none) (hv:∀b,μ id=some (.at b)→v=.map (some b)):bP μ F w (.map id) v
 |nilmap:bP μ F w .nilmap (.map none)
 |osl (id off n cap sz:Nat) (v:Value) (h1:v.oneCell'=true) (h:μ id≠none) (hv:∀b,μ id=some (.at b)→v=.slice (some ⟨b,off,none⟩) n cap):bP μ F w (.osl id off n cap sz) v
 |yld (id:Nat) (v:Value) (h1:v.oneCell'=true) (h:μ id≠none) (hv:∀b,μ id=some (.at b)→v=.func (.yield b) #[] #[]):bP μ F w (.yld id) v
 |bsl (id g n cap:Nat) (v:Value) (h1:v.oneCell'=true) (h:μ id=some .dead∨∃p g',μ id=some (.spare p g')∧g≤g'∧(g=g'→∀b,p=some (b,0)→v=.slice (some ⟨b,0,none⟩) n cap)):bP μ F w (.bsl id g n cap) v
 |top (v:Value):bP μ F w .top v
theorem bP.sl_inv {μ:Mu} {F:c8} {w:World} {sz:Nat} {xs:List AV} {t:eE} {v:Value} (h:bP μ F w (.sl sz xs t) v):
  ∃(A:Option Addr) (cap:Nat) (ad:Addr) (vals:Nat→Value),v=.slice A xs.length cap∧(∀x,x∈xs→x.cells.length=sz)∧xs.length≤cap∧(0 < xs.length→A=some ad∧ad.spot=none)∧
   (∀(i:Nat) (x:AV) (j:Nat) (c:AV),xs[i]? =some x→x.cells[j]? =some c→(vals (i*sz+j)).oneCell'=true)∧
   (∀(i:Nat) (x:AV) (j:Nat) (c:AV),xs[i]? =some x→x.cells[j]? =some c→w.cell? ⟨ad.block,ad.off+(i*sz+j),none⟩=some (vals (i*sz+j))∧iO μ F ad.block (ad.off+(i*sz+j)))∧
   (∀(i:Nat) (x:AV) (j:Nat) (c:AV),xs[i]? =some x→x.cells[j]? =some c→bP μ F w c (vals (i*sz+j)))∧mS μ w A xs.length cap sz t:=by
 cases h with
 |sl _ _ _ A cap ad vals hsz hcap hA hone hcell hrep htag=>exact⟨A,cap,ad,vals,rfl,hsz,hcap,hA,hone,hcell,hrep,htag⟩
theorem bP.ref_inv {μ:Mu} {F:c8} {w:World} {cells:List AV} {v:Value} (h:bP μ F w (.ref cells) v):
  ∃(b o:Nat) (vals:Nat→Value),v=.pointer (some ⟨b,o,none⟩)∧(∀(j:Nat) (c:AV),cells[j]? =some c→(vals j).oneCell'=true)∧
   (∀(j:Nat) (c:AV),cells[j]? =some c→w.cell? ⟨b,o+j,none⟩=some (vals j)∧iO μ F b (o+j))∧(∀(j:Nat) (c:AV),cells[j]? =some c→bP μ F w c (vals j)):=by
 cases h with
 |ref _ b o vals hone hcell hrep=>exact⟨b,o,vals,rfl,hone,hcell,hrep⟩
theorem bP.agg_inv {μ:Mu} {F:c8} {w:World} {l:List AV} {v:Value} (h:bP μ F w (.agg l) v):
  ∃c,v=.agg c∧c.size=l.length∧(∀(i:Nat) (x:AV) (u:Value),l[i]? =some x→c[i]? =some u→bP μ F w x u)∧(∀(i:Nat) (u:Value),c[i]? =some u→u.oneCell'=true):=by
 cases h with
 |agg _ c hs h hone=>exact⟨c,rfl,hs,h,hone⟩
theorem bP.tup_inv {μ:Mu} {F:c8} {w:World} {l:List AV} {v:Value} (h:bP μ F w (.tup l) v):
  ∃c,v=.tuple c∧c.size=l.length∧(∀(i:Nat) (x:AV) (u:Value),l[i]? =some x→c[i]? =some u→bP μ F w x u):=by
 cases h with
 |tup _ c hs h=>exact⟨c,rfl,hs,h⟩
theorem bP.fn_inv {μ:Mu} {F:c8} {w:World} {f:Fn} {l1 l2:List AV} {v:Value} (h:bP μ F w (.fn f l1 l2) v):
  ∃c1 c2,v=.func f c1 c2∧c1.size=l1.length∧c2.size=l2.length∧(∀(i:Nat) (x:AV) (u:Value),l1[i]? =some x→c1[i]? =some u→bP μ F w x u)∧
   (∀(i:Nat) (x:AV) (u:Value),l2[i]? =some x→c2[i]? =some u→bP μ F w x u):=by
 cases h with
 |fn _ _ _ c1 c2 hs1 hs2 h1 h2=>exact⟨c1,c2,rfl,hs1,hs2,h1,h2⟩
structure dQ (w:World) (μ:Mu) (w':World) (μ':Mu):Prop where
 os:w'.os=w.os
 tape:w'.tape=w.tape
 output:w'.output=w.output
 size:w.heap.size≤w'.heap.size
 mu:∀id,μ id≠none→μ' id=μ id∨μ' id=some .dead∨∃p g p' g',μ id=some (.spare p g)∧μ' id=some (.spare p' g')∧g < g'
 same:∀b,b < w.heap.size→(∀o,¬jG μ b o)→w'.heap[b]? =w.heap[b]?
 part:∀b e c ty fr,b < w.heap.size→(∀o,jG μ b o→e≤o)→w.heap[b]? =some (.cells c ty fr)→
  ∃c' fr',w'.heap[b]? =some (.cells c' ty fr')∧c'.size=c.size∧∀o,o < e→c'[o]? =c[o]?
 own:∀b o,b < w.heap.size→jG μ' b o→jG μ b o
theorem dQ.refl (w:World) (μ:Mu):dQ w μ w μ:=
 ⟨rfl,rfl,rfl,Nat.le_refl _,fun _ _=>.inl rfl,fun _ _ _=>rfl,fun b e c ty fr _ _ h=>⟨c,fr,h,rfl,fun _ _=>rfl⟩,fun _ _ _ h=>h⟩
theorem dQ.trans {w w1 w2:World} {μ μ1 μ2:Mu} (h:dQ w μ w1 μ1) (k:dQ w1 μ1 w2 μ2):dQ w μ w2 μ2:=by
 refine⟨k.os.trans h.os,k.tape.trans h.tape,k.output.trans h.output,Nat.le_trans h.size k.size,?_,?_,?_,?_⟩
 ·intro id hid
  rcases h.mu id hid with h1|h1|⟨p,g,p',g',h1,h1',hg⟩
  ·rcases k.mu id (by rw[h1];exact hid) with h2|h2|⟨p,g,p',g',h2,h2',hg⟩
   ·exact .inl (h2.trans h1)
   ·exact .inr (.inl h2)
   ·exact .inr (.inr ⟨p,g,p',g',h1 ▸ h2,h2',hg⟩)
  ·rcases k.mu id (by rw[h1];simp) with h2|h2|⟨p,g,p',g',h2,_⟩
   ·exact .inr (.inl (h2.trans h1))
   ·exact .inr (.inl h2)
   ·rw[h1] at h2;cases h2
  ·rcases k.mu id (by rw[h1'];simp) with h2|h2|⟨q,r,q',r',h2,h2',hr⟩
   ·exact .inr (.inr ⟨p,g,p',g',h1,h2.trans h1',hg⟩)
   ·exact .inr (.inl h2)
   ·rw[h1'] at h2
    cases h2
    exact .inr (.inr ⟨p,g,q',r',h1,h2',Nat.lt_trans hg hr⟩)
 ·intro b hb hn
  rw[k.same b (Nat.lt_of_lt_of_le hb h.size) (fun o ho=>hn o (h.own b o hb ho)),h.same b hb hn]
 ·intro b e c ty fr hb hn hc
  obtain⟨c1,f1,h1,s1,e1⟩:=h.part b e c ty fr hb hn hc
  obtain⟨c2,f2,h2,s2,e2⟩:=k.part b e c1 ty f1 (Nat.lt_of_lt_of_le hb h.size) (fun o ho=>hn o (h.own b o hb ho)) h1
  exact⟨c2,f2,h2,s2.trans s1,fun o ho=>(e2 o ho).trans (e1 o ho)⟩
 ·intro b o hb ho
  exact h.own b o hb (k.own b o (Nat.lt_of_lt_of_le hb h.size) ho)
theorem t1 {w:World} {b o:Nat} {v:Value} (h:w.cell? ⟨b,o,none⟩=some v):b < w.heap.size:=World.block_lt_of_cell? w ⟨b,o,none⟩ h
theorem NH {w:World} {b o:Nat} {v:Value} (h:w.cell? ⟨b,o,none⟩=some v):∃c ty fr,w.heap[b]? =some (.cells c ty fr)∧c[o]? =some v:=by
 simp only[World.cell?] at h
 split at h
 ·rename_i c ty fr hb
  exact⟨c,ty,fr,hb,by simpa using h⟩
 ·cases h
theorem cF {w:World} {b o:Nat} {c:Array Value} {ty:TypeId} {fr:Nat×Nat} (h:w.heap[b]? =some (.cells c ty fr)):w.cell? ⟨b,o,none⟩=c[o]? :=by
 simp[World.cell?,h]
theorem YP {μ:Mu} {b o o':Nat} (h:jG μ b o) (hle:o≤o'):jG μ b o':=by
 obtain⟨id,h|⟨e,g,h,he⟩⟩:=h
 ·exact⟨id,.inl h⟩
 ·exact⟨id,.inr ⟨e,g,h,by omega⟩⟩
theorem dQ.cell {w w':World} {μ μ':Mu} (h:dQ w μ w' μ') {b o:Nat} {v:Value} (hc:w.cell? ⟨b,o,none⟩=some v) (hf:¬jG μ b o):w'.cell? ⟨b,o,none⟩=some v:=by
 obtain⟨c,ty,fr,hb,hv⟩:=NH hc
 obtain⟨c',f',h',_,e'⟩:=h.part b (o+1) c ty fr (t1 hc) (fun o' ho'=>by
  rcases Nat.lt_or_ge o o' with hlt|hge
  ·exact hlt
  ·exact absurd (YP ho' hge) hf) hb
 rw[cF h',e' o (Nat.lt_succ_self o)]
 exact hv
theorem dQ.free {w w':World} {μ μ':Mu} {F:c8} (h:dQ w μ w' μ') {b o:Nat} (hb:b < w.heap.size) (hf:iO μ F b o):iO μ' F b o:=
 ⟨hf.1,fun ho=>hf.2 (h.own b o hb ho)⟩
theorem F5.evo {w w':World} {μ μ':Mu} (hev:dQ w μ w' μ') {A:Option Addr} {n cap sz:Nat} {p:Option (Nat×Nat)} (h:F5 w A n cap sz p):F5 w' A n cap sz p:=by
 cases p with
 |none=>exact h
 |some be=>
  obtain⟨b,e⟩:=be
  obtain⟨hA,he,c,ty,fr,hh,hs⟩:=h
  have hlt:b < w.heap.size:=(Array.getElem?_eq_some_iff.1 hh).1
  obtain⟨c',f',h',s',_⟩:=hev.part b 0 c ty fr hlt (fun o' _=>Nat.zero_le _) hh
  exact⟨hA,he,c',ty,f',h',by rw[s'];exact hs⟩
theorem mS.evo {w w':World} {μ μ':Mu} (hev:dQ w μ w' μ') {A:Option Addr} {n cap sz:Nat} {t:eE} (h:mS μ w A n cap sz t):mS μ' w' A n cap sz t:=by
 cases t with
 |none=>trivial
 |full=>exact h
 |tok id g=>
  rcases h with h1|⟨p,g',h1,hg,hr⟩
  ·rcases hev.mu id (by rw[h1];simp) with h|h|⟨_,_,_,_,h,_⟩
   ·exact .inl (h.trans h1)
   ·exact .inl h
   ·rw[h1] at h;cases h
  ·rcases hev.mu id (by rw[h1];simp) with h|h|⟨q,r,q',r',h,h',hlt⟩
   ·exact .inr ⟨p,g',h.trans h1,hg,fun e=>(hr e).evo hev⟩
   ·exact .inl h
   ·rw[h1] at h
    cases h
    exact .inr ⟨q',r',h',by omega,fun e=>by omega⟩
theorem bP.evo {w w':World} {μ μ':Mu} {F:c8} (hev:dQ w μ w' μ') {x:AV} {v:Value} (h:bP μ F w x v):bP μ' F w' x v:=by
 induction h with
 |int k n=>exact .int k n
 |bool b=>exact .bool b
 |str s=>exact .str s
 |sl sz xs t A cap ad vals hsz hcap hA hone hcell hrep htag ih=>
  refine .sl sz xs t A cap ad vals hsz hcap hA hone ?_ ih (htag.evo hev)
  intro i x j c hx hc
  obtain⟨h1,h2⟩:=hcell i x j c hx hc
  exact⟨hev.cell h1 h2.2,hev.free (t1 h1) h2⟩
 |ptr id off v h1 h hv=>
  refine .ptr id off v h1 ?_ ?_
  ·rcases hev.mu id h with h'|h'|⟨_,_,_,_,_,h',_⟩<;>rw[h']<;>first|exact h|simp
  ·intro b hb
   rcases hev.mu id h with h'|h'|⟨_,_,_,_,_,h',_⟩<;>rw[h'] at hb
   ·exact hv b hb
   ·cases hb
   ·cases hb
 |ref cells b o vals hone hcell hrep ih=>
  refine .ref cells b o vals hone ?_ ih
  intro j c hc
  obtain⟨h1,h2⟩:=hcell j c hc
  exact⟨hev.cell h1 h2.2,hev.free (t1 h1) h2⟩
 |nilptr=>exact .nilptr
 |nilIface=>exact .nilIface
 |iface t x v h ih=>exact .iface t x v ih
 |nilFunc=>exact .nilFunc
 |fn f l1 l2 c1 c2 hs1 hs2 h1 h2 ih1 ih2=>exact .fn f l1 l2 c1 c2 hs1 hs2 ih1 ih2
 |agg l c hs h hone ih=>exact .agg l c hs ih hone
 |tup l c hs h ih=>exact .tup l c hs ih
 |map id v h1 h hv=>
  refine .map id v h1 ?_ ?_
  ·rcases hev.mu id h with h'|h'|⟨_,_,_,_,_,h',_⟩<;>rw[h']<;>first|exact h|simp
  ·intro b hb
   rcases hev.mu id h with h'|h'|⟨_,_,_,_,_,h',_⟩<;>rw[h'] at hb
   ·exact hv b hb
   ·cases hb
   ·cases hb
 |nilmap=>exact .nilmap
 |osl id off n cap sz v h1 h hv=>
  refine .osl id off n cap sz v h1 ?_ ?_
  ·rcases hev.mu id h with h'|h'|⟨_,_,_,_,_,h',_⟩<;>rw[h']<;>first|exact h|simp
  ·intro b hb
   rcases hev.mu id h with h'|h'|⟨_,_,_,_,_,h',_⟩<;>rw[h'] at hb
   ·exact hv b hb
   ·cases hb
   ·cases hb
 |yld id v h1 h hv=>
  refine .yld id v h1 ?_ ?_
  ·rcases hev.mu id h with h'|h'|⟨_,_,_,_,_,h',_⟩<;>rw[h']<;>first|exact h|simp
  ·intro b hb
   rcases hev.mu id h with h'|h'|⟨_,_,_,_,_,h',_⟩<;>rw[h'] at hb
   ·exact hv b hb
   ·cases hb
   ·cases hb
 |bsl id g n cap v h1 h=>
  refine .bsl id g n cap v h1 ?_
  rcases h with h|⟨p,g',h,hg,hv⟩
  ·rcases hev.mu id (by rw[h];simp) with h'|h'|⟨_,_,_,_,h',_⟩
   ·exact .inl (h'.trans h)
   ·exact .inl h'
   ·rw[h] at h';cases h'
  ·rcases hev.mu id (by rw[h];simp) with h'|h'|⟨q,r,q',r',h',h'',hlt⟩
   ·exact .inr ⟨p,g',h'.trans h,hg,hv⟩
   ·exact .inl h'
   ·rw[h] at h'
    cases h'
    exact .inr ⟨q',r',h'',by omega,fun e=>by omega⟩
 |top v=>exact .top v
inductive c7 where
 |cells (l:List AV)
 |spare (g:Nat)
 |raw (g:Option Nat) (o:Obj) (vs:Array Value) (t:List (Nat×AV))
structure aG where
 next:Nat
 objs:List (Nat×c7)
def aJ {α:Type}:List (Nat×α)→Nat→Option α
 |[],_=>none
 |(k,v)::r,i=>if i=k then some v else aJ r i
def aG.get (M:aG) (id:Nat):Option c7:=aJ M.objs id
structure Fit (μ:Mu) (F:c8) (w:World):Prop where
 own:∀b o,jG μ b o→b < w.heap.size
 frm:∀b o,F b o→b < w.heap.size
theorem Fit.new {μ:Mu} {F:c8} {w:World} (h:Fit μ F w) {b o:Nat} (hb:w.heap.size≤b):iO μ F b o:=
 ⟨fun hf=>by have:=h.frm b o hf;omega,fun ho=>by have:=h.own b o ho;omega⟩
theorem dQ.of_below {w w':World} (μ:Mu) (h:Below w.heap.size w w'):dQ w μ w' μ:=
 ⟨h.os,h.tape,h.output,h.size,fun _ _=>.inl rfl,fun b hb _=>h.block b hb,fun b e c ty fr hb _ hc=>⟨c,fr,(h.block b hb).trans hc,rfl,fun _ _=>rfl⟩,fun _ _ _ h=>h⟩
theorem bP.later {w w':World} {μ:Mu} {F:c8} (hb:Below w.heap.size w w') {x:AV} {v:Value} (h:bP μ F w x v):bP μ F w' x v:=h.evo (dQ.of_below μ hb)
theorem Fit.below {w w':World} {μ:Mu} {F:c8} (hb:Below w.heap.size w w') (h:Fit μ F w):Fit μ F w':=
 ⟨fun b o ho=>Nat.lt_of_lt_of_le (h.own b o ho) hb.size,fun b o ho=>Nat.lt_of_lt_of_le (h.frm b o ho) hb.size⟩
def dH (μ:Mu) (i b:Nat):Prop:=μ i=some (.at b)∨∃e g,μ i=some (.spare (some (b,e)) g)
def a6k (fr:Nat×Nat) (n:Nat):Prop:=∀o,o < n→¬(fr.1≤o∧o < fr.2)
def lY (μ:Mu) (id:Nat):Option Nat→Nat→Prop
 |none,b=>μ id=some (.at b)
 |some n,b=>μ id=some (.spare (some (b,0)) n)
theorem lY.congr {μ μ':Mu} {id:Nat} {g:Option Nat} {b:Nat} (h:lY μ id g b) (e:μ' id=μ id):lY μ' id g b:=by
 cases g with
 |none=>exact e.trans h
 |some n=>exact e.trans h
theorem lY.lies {μ:Mu} {id:Nat} {g:Option Nat} {b:Nat} (h:lY μ id g b):dH μ id b:=by
 cases g with
 |none=>exact .inl h
 |some n=>exact .inr ⟨0,n,h⟩
theorem lY.ne {μ:Mu} {id:Nat} {g:Option Nat} {b:Nat} (h:lY μ id g b):μ id≠none:=by
 cases g with
 |none=>rw[show μ id=some (.at b) from h];simp
 |some n=>rw[show μ id=some (.spare (some (b,0)) n) from h];simp
structure dY (μ:Mu) (F:c8) (M:aG) (w:World):Prop where
 dom:∀id,μ id≠none↔id < M.next
 obj:∀id l,M.get id=some (.cells l)→∃b c ty,μ id=some (.at b)∧w.heap[b]? =some (.cells c ty (0,0))∧c.size=l.length∧
  (∀(i:Nat) (v:Value),c[i]? =some v→v.oneCell'=true)∧∀(i:Nat) (x:AV) (v:Value),l[i]? =some x→c[i]? =some v→bP μ F w x v
 spare:∀id g,M.get id=some (.spare g)→∃p,μ id=some (.spare p g)∧∀b e,p=some (b,e)→∃c ty fr,w.heap[b]? =some (.cells c ty fr)∧e≤c.size∧a6k fr c.size
 inj:∀i j b,dH μ i b→dH μ j b→i=j
 frm:∀b o,jG μ b o→¬F b o
 fit:Fit μ F w
 raw:∀id g o vs t,M.get id=some (.raw g o vs t)→∃b,lY μ id g b∧w.heap[b]? =some o∧∀i,bP μ F w ((aJ t i).getD .top) (vs.getD i undef)
theorem dY.below {w w':World} {μ:Mu} {F:c8} {M:aG} (hb:Below w.heap.size w w') (h:dY μ F M w):dY μ F M w':=by
 refine⟨h.dom,?_,?_,h.inj,h.frm,h.fit.below hb,?_⟩
 ·intro id l hl
  obtain⟨b,c,ty,h1,h2,h3,h4,h5⟩:=h.obj id l hl
  have hlt:b < w.heap.size:=(Array.getElem?_eq_some_iff.1 h2).1
  exact⟨b,c,ty,h1,(hb.block b hlt).trans h2,h3,h4,fun i x v hx hv=>(h5 i x v hx hv).later hb⟩
 ·intro id g hl
  obtain⟨p,h1,h2⟩:=h.spare id g hl
  refine⟨p,h1,fun b e hp=>?_⟩
  obtain⟨c,ty,fr,h3,h4,h5⟩:=h2 b e hp
  have hlt:b < w.heap.size:=(Array.getElem?_eq_some_iff.1 h3).1
  exact⟨c,ty,fr,(hb.block b hlt).trans h3,h4,h5⟩
 ·intro id g o vs t hl
  obtain⟨b,h1,h2,h3⟩:=h.raw id g o vs t hl
  have hlt:b < w.heap.size:=(Array.getElem?_eq_some_iff.1 h2).1
  exact⟨b,h1,(hb.block b hlt).trans h2,fun i=>(h3 i).later hb⟩
end Go.Ab
namespace Go.Ab
inductive TK where
 |int (k:IntKind)
 |bool
 |str
 |slice (e:TypeId)
 |array (n:Nat) (e:TypeId)
 |struct (fs:List (Nat×TypeId))
 |ptr (e:TypeId)
 |iface
 |map (k e:TypeId)
 |other
structure TI where
 size:Nat
 bytes:Nat
 k:TK
 zero:List AV
abbrev Tab:=List (Nat×TI)
def AV.toV:AV→Value
 |.int k n=>.int k n
 |.bool b=>.bool b
 |.str s=>.string ⟨s.toArray⟩
 |.sl _ [] .full=>.slice none 0 0
 |.nilptr=>.pointer none
 |.nilIface=>.nilIface
 |.nilFunc=>.nilFunc
 |.nilmap=>.map none
 |_=>undef
def AV.plain:AV→Bool
 |.int ..|.bool _|.str _|.sl _ [] .full|.nilptr|.nilIface|.nilFunc|.nilmap=>true
 |_=>false
theorem wY (μ:Mu) (F:c8) (w:World) {x:AV} (h:x.plain=true):bP μ F w x x.toV:=by
 cases x with
 |int k n=>exact .int k n
 |bool b=>exact .bool b
 |str s=>exact .str s
 |sl sz xs t=>
  cases xs with
  |nil=>
   cases t with
   |full=>exact bP.sl _ [] .full none 0 ⟨0,0,none⟩ (fun _=>undef) (by simp) (by simp) (by simp) (by simp) (by simp) (by simp) rfl
   |_=>simp[AV.plain] at h
  |cons _ _=>simp[AV.plain] at h
 |nilptr=>exact .nilptr
 |nilIface=>exact .nilIface
 |nilFunc=>exact .nilFunc
 |nilmap=>exact .nilmap
 |_=>simp[AV.plain] at h
theorem oQ {x:AV} (h:x.plain=true):x.toV.oneCell'=true:=by
 cases x with
 |sl sz xs t=>cases xs with
  |nil=>cases t<;>first|rfl|simp[AV.plain] at h
  |cons _ _=>simp[AV.plain] at h
 |_=>first|rfl|simp[AV.plain] at h
def UH:Value→AV→Bool
 |.int k n,.int k' n'=>k==k'&&n==n'
 |.bool b,.bool b'=>b==b'
 |.string s,.str l=>s.data.toList==l
 |.slice none 0 0,.sl _ [] .full=>true
 |.pointer none,.nilptr=>true
 |.nilIface,.nilIface=>true
 |.nilFunc,.nilFunc=>true
 |.map none,.nilmap=>true
 |_,_=>false
theorem MG {v:Value} {x:AV} (h:UH v x=true):v=x.toV∧x.plain=true:=by
 unfold UH at h
 split at h<;>simp at h
 ·obtain⟨rfl,rfl⟩:=h;exact⟨rfl,rfl⟩
 ·subst h;exact⟨rfl,rfl⟩
 ·rename_i s l
  refine⟨?_,rfl⟩
  cases s
  simp only[AV.toV]
  subst h
  simp
 all_goals exact⟨rfl,rfl⟩
def TK.fits:TK→TypeDesc→Bool
 |.int k,.int k'=>k==k'
 |.bool,.bool=>true
 |.str,.string=>true
 |.slice e,.slice e'=>e==e'
 |.array n e,.array n' e'=>n==n'&&e==e'
 |.struct fs,.struct gs=>gs.toList.map (fun f=>(f.offset,f.type))==fs
 |.ptr e,.pointer e'=>e==e'
 |.iface,.interface _=>true
 |.map k e,.map k' e'=>k==k'&&e==e'
 |.other,.func ..=>true
 |.other,.tuple _=>true
 |.other,.chan ..=>true
 |_,_=>false
def TI.agg (i:TI):Bool:=match i.k with|.struct _|.array ..=>true|_=>false
def iP:List Value→List AV→Bool
 |[],[]=>true
 |v::r,x::s=>UH v x&&iP r s
 |_,_=>false
def a7v (z:Value) (b:Bool):Bool:=match z with|.agg _=>b|_=>!b
def TI.ok (P:Program) (t:TypeId) (i:TI):Bool:=
 match P.info? t,P.underlying t with
 |some f,some d=>f.size==i.size&&f.bytes==i.bytes&&i.k.fits d&&(match f.zero with|some z=>iP z.cells.toList i.zero&&a7v z i.agg|none=>false)&&i.zero.length==i.size
 |_,_=>false
def TabOK (P:Program) (τ:Tab):Prop:=∀t i,aJ τ t=some i→i.ok P t=true
theorem tabOK_of {P:Program} {τ:Tab} (h:(τ.all fun p=>p.2.ok P p.1)=true):TabOK P τ:=by
 intro t i hl
 have:(t,i)∈τ:=by
  clear h
  induction τ with
  |nil=>cases hl
  |cons p r ih=>
   obtain⟨k,v⟩:=p
   simp only[aJ] at hl
   split at hl
   ·rename_i e
    cases hl
    subst e
    exact List.mem_cons_self
   ·exact List.mem_cons_of_mem _ (ih hl)
 exact (List.all_eq_true.1 h) _ this
structure KA (P:Program) (t:TypeId) (i:TI) (f:TypeInfo) (d:TypeDesc) (z:Value):Prop where
 info:P.info? t=some f
 und:P.underlying t=some d
 size:f.size=i.size
 bytes:f.bytes=i.bytes
 fits:i.k.fits d=true
 zero:f.zero=some z
 cells:iP z.cells.toList i.zero=true
 agg:a7v z i.agg=true
 len:i.zero.length=i.size
theorem TI.spec {P:Program} {τ:Tab} (hτ:TabOK P τ) {t:TypeId} {i:TI} (h:aJ τ t=some i):∃f d z,KA P t i f d z:=by
 have:=hτ t i h
 unfold TI.ok at this
 split at this
 ·rename_i f d hf hd
  simp only[Bool.and_eq_true,beq_iff_eq] at this
  obtain⟨⟨⟨⟨h1,h2⟩,h3⟩,h4⟩,h5⟩:=this
  split at h4
  ·rename_i z hz
   simp only[Bool.and_eq_true] at h4
   exact⟨f,d,z,hf,hd,h1,h2,h3,hz,h4.1,h4.2,h5⟩
  ·cases h4
 ·cases this
theorem KA.isAgg {P:Program} {t:TypeId} {i:TI} {f:TypeInfo} {d:TypeDesc} {z:Value} (h:KA P t i f d z) (w:World):(isAgg t).run P w=.ok i.agg w:=by
 have hf:=h.fits
 unfold Go.isAgg
 simp only[Sem.run_bind,run_underlying h.und,Result.andThen_ok]
 unfold TI.agg
 cases hk:i.k<;>cases d<;>simp[hk,TK.fits] at hf ⊢
theorem bV:∀{l:List Value} {zs:List AV},iP l zs=true→l.length=zs.length∧∀(j:Nat) (v:Value) (x:AV),l[j]? =some v→zs[j]? =some x→v=x.toV∧x.plain=true
 |[],[],_=>⟨rfl,by simp⟩
 |v::r,x::s,h=>by
  simp only[iP,Bool.and_eq_true] at h
  obtain⟨h1,h2⟩:=bV h.2
  refine⟨by simp[h1],?_⟩
  intro j v' x' hv hx
  cases j with
  |zero=>
   simp at hv hx
   subst hv;subst hx
   exact MG h.1
  |succ j=>exact h2 j v' x' (by simpa using hv) (by simpa using hx)
 |[],_::_,h=>by simp[iP] at h
 |_::_,[],h=>by simp[iP] at h
def TI.zv (i:TI):AV:=if i.agg then .agg i.zero else i.zero.getD 0 .top
theorem KA.zrep {P:Program} {t:TypeId} {i:TI} {f:TypeInfo} {d:TypeDesc} {z:Value} (h:KA P t i f d z) (hs:i.agg=true∨i.size=1) (μ:Mu) (F:c8) (w:World):bP μ F w i.zv z:=by
 have ha:=h.agg
 obtain⟨hl,hc⟩:=bV h.cells
 unfold TI.zv
 unfold a7v at ha
 split at ha
 ·rename_i cs
  rw[if_pos ha]
  simp only[Value.cells] at hl hc
  refine .agg _ _ (by simpa using hl) ?_ ?_
  ·intro j x v hx hv
   obtain⟨rfl,hp⟩:=hc j v x (by simpa using hv) hx
   exact wY _ _ _ hp
  ·intro j v hv
   have hj:j < i.zero.length:=by
    rw[←hl]
    have:=(Array.getElem?_eq_some_iff.1 hv).1
    simpa using this
   obtain⟨rfl,hp⟩:=hc j v _ (by simpa using hv) (List.getElem?_eq_getElem hj)
   exact oQ hp
 ·rename_i v hne
  have ha':i.agg=false:=by simpa using ha
  rw[if_neg (by simp[ha'])]
  have hz:z.cells=#[z]:=by
   cases z<;>first|rfl|exact absurd rfl (hne _)
  have h1:i.zero.length=1:=by
   have:=h.len
   rcases hs with hs|hs
   ·rw[hs] at ha';cases ha'
   ·omega
  rw[hz] at hc
  obtain⟨e,hp⟩:=hc 0 z (i.zero.getD 0 .top) rfl (by simp[h1])
  rw[e]
  exact wY _ _ _ hp
def a0i:Value→AV
 |.int k n=>.int k n
 |.bool b=>.bool b
 |.string s=>.str s.data.toList
 |.slice none 0 0=>.sl 0 [] .full
 |.pointer none=>.nilptr
 |.nilIface=>.nilIface
 |.nilFunc=>.nilFunc
 |.map none=>.nilmap
 |_=>.top
theorem IQ (μ:Mu) (F:c8) (w:World) (v:Value):bP μ F w (a0i v) v:=by
 unfold a0i
 split
 ·exact .int _ _
 ·exact .bool _
 ·rename_i s
  have:=bP.str (μ:=μ) (F:=F) (w:=w) s.data.toList
  simpa using this
 ·exact bP.sl _ [] .full none 0 ⟨0,0,none⟩ (fun _=>undef) (by simp) (by simp) (by simp) (by simp) (by simp) (by simp) rfl
 ·exact .nilptr
 ·exact .nilIface
 ·exact .nilFunc
 ·exact .nilmap
 ·exact .top _
def T7:Value→AV
 |.agg cs=>if cs.all (·.oneCell') then .agg (cs.toList.map a0i) else .top
 |v=>a0i v
theorem P4 (μ:Mu) (F:c8) (w:World) (v:Value):bP μ F w (T7 v) v:=by
 unfold T7
 split
 ·rename_i cs
  split
  ·rename_i h1
   refine .agg _ _ (by simp) ?_ ?_
   ·intro i x v hx hv
    simp only[List.getElem?_map,Array.getElem?_toList,hv,Option.map_some] at hx
    cases hx
    exact IQ _ _ _ _
   ·intro i v hv
    exact (Array.all_eq_true_iff_forall_mem.1 h1) v (Array.mem_of_getElem? hv)
  ·exact .top _
 ·exact IQ _ _ _ _
end Go.Ab
namespace Go.Ab
open Go.RowKit
def jF (P:Program) (op:Op) (ty:TypeId) (ρ:Operand→AV) (x:AV):Prop:=
 ∀(μ:Mu) (F:c8) (w:World) (ρc:Operand→Value) (o:Oper),Fit μ F w→o.op=op→o.type=ty→(∀y∈op.operands,bP μ F w (ρ y) (ρc y))→
  ∃v w',(execOp ρc o).run P w=.ok (.value v) w'∧Below w.heap.size w w'∧bP μ F w' x v
theorem b7 {P:Program} {op:Op} {ty:TypeId} {ρ:Operand→AV} {x:AV}
  (h:∀(μ:Mu) (F:c8) (w:World) (ρc:Operand→Value) (o:Oper),o.op=op→o.type=ty→(∀y∈op.operands,bP μ F w (ρ y) (ρc y))→
   ∃v,(execOp ρc o).run P w=.ok (.value v) w∧bP μ F w x v):jF P op ty ρ x:=by
 intro μ F w ρc o _ ho ht hr
 obtain⟨v,h1,h2⟩:=h μ F w ρc o ho ht hr
 exact⟨v,w,h1,Below.refl _ _,h2⟩
theorem rW {P:Program} {x:Operand} {ty:TypeId} {ρ:Operand→AV}:jF P (.move x) ty ρ (ρ x):=by
 refine b7 ?_
 intro μ F w ρc o ho ht hr
 exact⟨ρc x,by simp[execOp,ho],hr x (by simp[Op.operands])⟩
theorem LE {P:Program} {x:Operand} {ty:TypeId} {ρ:Operand→AV}:jF P (.assign x) ty ρ (ρ x):=by
 refine b7 ?_
 intro μ F w ρc o ho ht hr
 exact⟨ρc x,by simp[execOp,ho],hr x (by simp[Op.operands])⟩
def X8 (c a b:AV):Option AV:=
 match c with
 |.bool true=>some a
 |.bool false=>some b
 |_=>none
theorem VH {P:Program} {c a b:Operand} {ty:TypeId} {ρ:Operand→AV} {x:AV} (h:X8 (ρ c) (ρ a) (ρ b)=some x):jF P (.pick c a b) ty ρ x:=by
 refine b7 ?_
 intro μ F w ρc o ho ht hr
 have hc:=hr c (by simp[Op.operands])
 have ha:=hr a (by simp[Op.operands])
 have hb:=hr b (by simp[Op.operands])
 unfold X8 at h
 split at h<;>cases h
 ·rename_i e
  rw[e] at hc
  generalize hv:ρc c=v at hc
  cases hc
  exact⟨ρc a,by simp[execOp,ho,hv,asBool],ha⟩
 ·rename_i e
  rw[e] at hc
  generalize hv:ρc c=v at hc
  cases hc
  exact⟨ρc b,by simp[execOp,ho,hv,asBool],hb⟩
def ZY (op:BinOp) (x y:AV):Option AV:=
 match x,y with
 |.int k a,.int k' b=>
  match op with
  |.add=>if k=k' then some (.int k (k.wrap (a+b))) else none
  |.sub=>if k=k' then some (.int k (k.wrap (a - b))) else none
  |.mul=>if k=k' then some (.int k (k.wrap (a*b))) else none
  |.eql=>if k=k' then some (.bool (decide (a=b))) else none
  |.neq=>if k=k' then some (.bool (!decide (a=b))) else none
  |.lss=>if k=k' then some (.bool (decide (a < b))) else none
  |.leq=>if k=k' then some (.bool (decide (a≤b))) else none
  |.gtr=>if k=k' then some (.bool (decide (b < a))) else none
  |.geq=>if k=k' then some (.bool (decide (b≤a))) else none
  |_=>none
 |.str a,.str b=>
  match op with
  |.eql=>some (.bool (a==b))
  |.neq=>some (.bool (!(a==b)))
  |.lss=>some (.bool (Op.bytesLess a b))
  |.geq=>some (.bool (!Op.bytesLess a b))
  |.gtr=>some (.bool (!(Op.bytesLess a b||a==b)))
  |.leq=>some (.bool (Op.bytesLess a b||a==b))
  |_=>none
 |.bool a,.bool b=>
  match op with
  |.eql=>some (.bool (a==b))
  |.neq=>some (.bool (a != b))
  |_=>none
 |_,_=>none
theorem kU (s:List UInt8):(⟨s.toArray⟩:ByteArray).toList=s:=by
 rw[ByteArray.toList_eq]
theorem Q2 {P:Program} {b:BinOp} {xt yt:TypeId} {x y:Operand} {ty:TypeId} {ρ:Operand→AV} {r:AV}
  (hb:(∃p q,ρ x=.bool p∧ρ y=.bool q)→P.underlying xt=some .bool)
  (h:ZY b (ρ x) (ρ y)=some r):jF P (.binOp b xt x y yt) ty ρ r:=by
 refine b7 ?_
 intro μ F w ρc o ho ht hr
 have hx:=hr x (by simp[Op.operands])
 have hy:=hr y (by simp[Op.operands])
 unfold ZY at h
 generalize hvx:ρc x=vx at hx
 generalize hvy:ρc y=vy at hy
 split at h
 ·rename_i k a k' c e1 e2
  rw[e1] at hx
  rw[e2] at hy
  cases hx
  cases hy
  by_cases hk:k=k'
  ·subst hk
   cases b<;>simp only[reduceIte,Option.some.injEq,reduceCtorEq] at h
   all_goals
    subst h
    refine⟨_,by simp[execOp,ho,hvx,hvy,eqGuard,binOp,Op.intArith,Op.intCmp];rfl,?_⟩
   ·exact .int _ _
   ·exact .int _ _
   ·exact .int _ _
   ·rw[show (a==c)=decide (a=c) from by rw[Bool.eq_iff_iff];simp];exact .bool _
   ·rw[show (a != c)=!decide (a=c) from by rw[Bool.eq_iff_iff];simp];exact .bool _
   ·exact .bool _
   ·exact .bool _
   ·exact .bool _
   ·exact .bool _
  ·cases b<;>simp[hk] at h
 ·rename_i a c e1 e2
  rw[e1] at hx
  rw[e2] at hy
  cases hx
  cases hy
  cases b<;>simp only[Option.some.injEq,reduceCtorEq] at h
  all_goals
   subst h
   refine⟨_,by simp[execOp,ho,hvx,hvy,eqGuard,binOp,Op.stringOp,kU];rfl,?_⟩
   first|exact .bool _|(simp only[kU,Bool.not_or];exact .bool _)
 ·rename_i a c e1 e2
  have hu:=hb ⟨a,c,e1,e2⟩
  rw[e1] at hx
  rw[e2] at hy
  cases hx
  cases hy
  cases b<;>simp only[Option.some.injEq,reduceCtorEq] at h
  all_goals
   subst h
   refine⟨_,by simp[execOp,ho,hvx,hvy,eqGuard,binOp,run_equal_bool w xt a c hu];rfl,?_⟩
   exact .bool _
 ·cases h
def aun (op:UnOp) (x:AV):Option AV:=
 match op,x with
 |.not,.bool b=>some (.bool (!b))
 |.neg,.int k n=>some (.int k (k.wrap (-n)))
 |_,_=>none
theorem a85 {P:Program} {u:UnOp} {xt:TypeId} {x:Operand} {ty:TypeId} {ρ:Operand→AV} {r:AV} (h:aun u (ρ x)=some r):jF P (.unOp u xt x) ty ρ r:=by
 refine b7 ?_
 intro μ F w ρc o ho ht hr
 have hx:=hr x (by simp[Op.operands])
 unfold aun at h
 generalize hvx:ρc x=vx at hx
 split at h<;>cases h
 ·rename_i e
  rw[e] at hx
  cases hx
  exact⟨_,by simp[execOp,ho,hvx,Op.unary],.bool _⟩
 ·rename_i e
  rw[e] at hx
  cases hx
  exact⟨_,by simp[execOp,ho,hvx,Op.unary,Op.intArith],.int _ _⟩
def TX:TK→AV→Option AV
 |.int k,.int _ n=>some (.int k (k.wrap n))
 |.str,.str l=>some (.str l)
 |_,_=>none
def X5 (τ:Tab) (s d:TypeId) (x:AV):Option AV:=
 match aJ τ s,aJ τ d with
 |some _,some i=>TX i.k x
 |_,_=>none
theorem XC {P:Program} {τ:Tab} (hτ:TabOK P τ) {s d:TypeId} {x:Operand} {ty:TypeId} {ρ:Operand→AV} {r:AV} (h:X5 τ s d (ρ x)=some r):jF P (.convert s d x) ty ρ r:=by
 refine b7 ?_
 intro μ F w ρc o ho ht hr
 have hx:=hr x (by simp[Op.operands])
 unfold X5 at h
 split at h
 case h_2=>cases h
 rename_i is i his hid
 obtain⟨fs,ds,zs,Hs⟩:=TI.spec hτ his
 obtain⟨f,dd,z,H⟩:=TI.spec hτ hid
 have hf:=H.fits
 generalize hvx:ρc x=vx at hx
 generalize hk:i.k=kk at h hf
 unfold TX at h
 split at h
 ·rename_i k _ n e
  cases h
  rw[e] at hx
  cases hx
  have hdd:dd=.int k:=by
   cases dd<;>simp[TK.fits] at hf
   rw[hf]
  subst hdd
  refine⟨_,?_,.int _ _⟩
  simp[execOp,ho,hvx,convert,run_underlying Hs.und,run_underlying H.und,Conv.intToInt]
 ·rename_i l e
  cases h
  rw[e] at hx
  cases hx
  have hdd:dd=.string:=by
   cases dd<;>simp[TK.fits] at hf
   rfl
  subst hdd
  refine⟨_,?_,.str _⟩
  simp[execOp,ho,hvx,convert,run_underlying Hs.und,run_underlying H.und]
 ·cases h
end Go.Ab
namespace Go.Ab
open Go.RowKit
def sV:TK→Bool
 |.iface=>false
 |_=>true
def U3 (τ:Tab) (t:TypeId) (x:AV):Option AV:=
 match aJ τ t with
 |some i=>if sV i.k=true then some (.iface t x) else none
 |none=>none
theorem VJ {P:Program} {τ:Tab} (hτ:TabOK P τ) {t:TypeId} {x:Operand} {ty:TypeId} {ρ:Operand→AV} {r:AV} (h:U3 τ t (ρ x)=some r):jF P (.makeInterface t x) ty ρ r:=by
 refine b7 ?_
 intro μ F w ρc o ho ht hr
 have hx:=hr x (by simp[Op.operands])
 unfold U3 at h
 split at h
 case h_2=>cases h
 rename_i i hi
 split at h
 case isFalse=>cases h
 rename_i hn
 cases h
 obtain⟨f,d,z,H⟩:=TI.spec hτ hi
 refine⟨.iface t (ρc x),?_,.iface _ _ _ hx⟩
 have hf:=H.fits
 simp only[execOp,ho,Sem.run_bind,Instr.makeInterface,run_underlying H.und,Result.andThen_ok]
 generalize i.k=kk at hf hn
 cases d<;>first|rfl|(cases kk<;>simp[TK.fits,sV] at hf hn)
theorem lZ {P:Program} {g:Fn} {a b:Array Operand} {ty:TypeId} {ρ:Operand→AV}:jF P (.makeFunc g a b) ty ρ (.fn g (a.toList.map ρ) (b.toList.map ρ)):=by
 refine b7 ?_
 intro μ F w ρc o ho ht hr
 refine⟨.func g (a.map ρc) (b.map ρc),by simp[execOp,ho,Instr.makeFunc],?_⟩
 refine .fn _ _ _ _ _ (by simp) (by simp) ?_ ?_
 ·intro i x v hx hv
  simp only[List.getElem?_map,Array.getElem?_toList,Array.getElem?_map] at hx hv
  cases e:a[i]? with
  |none=>simp[e] at hx
  |some y=>
   simp[e] at hx hv
   subst hx;subst hv
   exact hr y (by simp[Op.operands];exact .inl (Array.mem_of_getElem? e))
 ·intro i x v hx hv
  simp only[List.getElem?_map,Array.getElem?_toList,Array.getElem?_map] at hx hv
  cases e:b[i]? with
  |none=>simp[e] at hx
  |some y=>
   simp[e] at hx hv
   subst hx;subst hv
   exact hr y (by simp[Op.operands];exact .inr (Array.mem_of_getElem? e))
def a89 (t:AV) (i:Nat):Option AV:=
 match t with
 |.tup l=>l[i]?
 |_=>none
theorem ZX {P:Program} {t:Operand} {i:Nat} {ty:TypeId} {ρ:Operand→AV} {r:AV} (h:a89 (ρ t) i=some r):jF P (.extract t i) ty ρ r:=by
 refine b7 ?_
 intro μ F w ρc o ho ht hr
 have hx:=hr t (by simp[Op.operands])
 generalize hv:ρc t=v at hx
 unfold a89 at h
 split at h
 case h_2=>cases h
 rename_i l e
 rw[e] at hx
 cases hx
 rename_i c hs hc
 have hi:i < c.size:=by rw[hs];exact (List.getElem?_eq_some_iff.1 h).1
 refine⟨c[i],?_,hc i r _ h (Array.getElem?_eq_getElem hi)⟩
 simp[execOp,ho,hv,Instr.extract,Array.getElem?_eq_getElem hi]
def fieldAt (τ:Tab) (t:TypeId) (j:Nat):Option (Nat×TI):=
 match aJ τ t with
 |some {k:=.struct fs,..}=>(match fs[j]? with|some (o,ft)=>(match aJ τ ft with|some fi=>some (o,fi)|none=>none)|none=>none)
 |_=>none
theorem jQ {P:Program} {τ:Tab} (hτ:TabOK P τ) {t:TypeId} {j o:Nat} {fi:TI} (h:fieldAt τ t j=some (o,fi)):
  ∃fs f ff fd fz,P.underlying t=some (.struct fs)∧fs[j]? =some f∧f.offset=o∧KA P f.type fi ff fd fz:=by
 unfold fieldAt at h
 split at h
 case h_2=>cases h
 rename_i fs hl
 split at h
 case h_2=>cases h
 rename_i o' ft hj
 split at h
 case h_2=>cases h
 rename_i fi' hf
 cases h
 obtain⟨f,d,z,H⟩:=TI.spec hτ hl
 have hft:=H.fits
 simp only at hft
 cases d<;>simp[TK.fits] at hft
 rename_i gs
 subst hft
 obtain⟨ff,fd,fz,HF⟩:=TI.spec hτ hf
 simp only[List.getElem?_map,Array.getElem?_toList] at hj
 cases e:gs[j]? with
 |none=>simp[e] at hj
 |some g=>
  simp only[e,Option.map_some,Option.some.injEq,Prod.mk.injEq] at hj
  obtain⟨h1,h2⟩:=hj
  subst h2
  exact⟨gs,g,ff,fd,fz,H.und,e,h1,HF⟩
theorem KA.cellsOf {P:Program} {t:TypeId} {i:TI} {f:TypeInfo} {d:TypeDesc} {z:Value} (h:KA P t i f d z):P.cellsOf t=i.size:=by
 simp[Program.cellsOf,h.info,h.size]
def LT (τ:Tab) (t:TypeId) (j:Nat) (x:AV):Option AV:=
 match x,fieldAt τ t j with
 |.agg l,some (o,fi)=>if fi.agg=true then some (.agg ((l.drop o).take fi.size)) else l[o]?
 |_,_=>none
theorem QS {P:Program} {τ:Tab} (hτ:TabOK P τ) {t:TypeId} {x:Operand} {j:Nat} {ty:TypeId} {ρ:Operand→AV} {r:AV} (h:LT τ t j (ρ x)=some r):jF P (.field t x j) ty ρ r:=by
 refine b7 ?_
 intro μ F w ρc o ho ht hr
 have hx:=hr x (by simp[Op.operands])
 generalize hv:ρc x=v at hx
 unfold LT at h
 split at h
 case h_2=>cases h
 rename_i l of_ fi e hfa
 obtain⟨fs,f,ff,fd,fz,hu,hj,hoff,H⟩:=jQ hτ hfa
 rw[e] at hx
 cases hx
 rename_i c hone hs hc
 subst hoff
 have ha:=H.isAgg w
 split at h
 ·rename_i hagg
  cases h
  refine⟨.agg (c.extract f.offset (f.offset+fi.size)),?_,?_⟩
  ·simp[execOp,ho,hv,Instr.field,run_underlying hu,hj,asAgg,part,ha,hagg,run_sizeOf w H.info,H.size,H.cellsOf]
  ·have hsz:∀i:Nat,(c.extract f.offset (f.offset+fi.size))[i]? =if i < fi.size then c[f.offset+i]? else none:=by
    intro i
    rw[Array.getElem?_extract]
    by_cases hi:i < fi.size
    ·rw[if_pos hi]
     by_cases hb:f.offset+i < c.size
     ·rw[if_pos (by omega)]
     ·rw[if_neg (by omega),Array.getElem?_eq_none (by omega)]
    ·rw[if_neg hi,if_neg (by omega)]
   have hsl:∀i:Nat,((l.drop f.offset).take fi.size)[i]? =if i < fi.size then l[f.offset+i]? else none:=by
    intro i
    rw[List.getElem?_take]
    split
    ·rw[List.getElem?_drop]
    ·rfl
   refine .agg _ _ ?_ ?_ ?_
   ·simp only[Array.size_extract,List.length_take,List.length_drop]
    omega
   ·intro i y u hy hu'
    rw[hsl] at hy
    rw[hsz] at hu'
    split at hy
    ·rename_i hi
     rw[if_pos hi] at hu'
     exact hc _ _ _ hy hu'
    ·cases hy
   ·intro i u hu'
    rw[hsz] at hu'
    split at hu'
    ·exact hone _ _ hu'
    ·cases hu'
 ·rename_i hagg
  have hi:f.offset < c.size:=by rw[hs];exact (List.getElem?_eq_some_iff.1 h).1
  refine⟨c[f.offset],?_,hc _ r _ h (Array.getElem?_eq_getElem hi)⟩
  simp[execOp,ho,hv,Instr.field,run_underlying hu,hj,asAgg,part,ha,hagg,Array.getElem?_eq_getElem hi]
end Go.Ab
namespace Go.Ab
open Go.RowKit
theorem KA.run_load {P:Program} {t:TypeId} {i:TI} {f:TypeInfo} {d:TypeDesc} {z:Value} (H:KA P t i f d z) (w:World) (b o:Nat) (vals:Nat→Value)
  (hc:∀j,j < (if i.agg=true then i.size else 1)→w.cell? ⟨b,o+j,none⟩=some (vals j)):
  (loadVar t ⟨b,o,none⟩).run P w=.ok (if i.agg=true then .agg ((List.range i.size).map vals).toArray else vals 0) w:=by
 have ha:=H.isAgg w
 unfold loadVar
 simp only[Sem.run_bind,ha,Result.andThen_ok]
 by_cases hagg:i.agg=true
 ·rw[if_pos hagg] at hc
  simp only[hagg,if_true,Sem.run_bind,run_sizeOf w H.info,H.size,Result.andThen_ok,H.cellsOf]
  rw[run_loadCells w ⟨b,o,none⟩ i.size vals (fun j hj=>by rw[Addr.add_lit];exact hc j hj)]
  rfl
 ·rw[if_neg hagg] at hc
  have h0:=hc 0 (by omega)
  simp only[Nat.add_zero] at h0
  simp[hagg,h0]
def WF (τ:Tab) (t:TypeId) (x:AV):Option AV:=
 match x,aJ τ t with
 |.ref cells,some i=>if i.agg=true then (if i.size≤cells.length then some (.agg (cells.take i.size)) else none) else cells[0]?
 |_,_=>none
theorem YQ {P:Program} {τ:Tab} (hτ:TabOK P τ) {t:TypeId} {x:Operand} {ty:TypeId} {ρ:Operand→AV} {r:AV} (h:WF τ t (ρ x)=some r):jF P (.load t x) ty ρ r:=by
 refine b7 ?_
 intro μ F w ρc o ho ht hr
 have hx:=hr x (by simp[Op.operands])
 generalize hv:ρc x=v at hx
 unfold WF at h
 split at h
 case h_2=>cases h
 rename_i cells i e hi
 obtain⟨f,d,z,H⟩:=TI.spec hτ hi
 rw[e] at hx
 obtain⟨b,off,vals,rfl,hone,hcell,hrep⟩:=hx.ref_inv
 split at h
 ·rename_i hagg
  split at h
  case isFalse=>cases h
  rename_i hle
  cases h
  have hl:=H.run_load w b off vals (fun j hj=>by
   rw[if_pos hagg] at hj
   exact (hcell j _ (List.getElem?_eq_getElem (show j < cells.length by omega))).1)
  rw[if_pos hagg] at hl
  refine⟨.agg (List.map vals (List.range i.size)).toArray,?_,?_⟩
  ·simp[execOp,ho,hv,Instr.loadAt,Instr.sureAddr,hl]
  ·refine .agg _ _ (by simp;omega) ?_ ?_
   ·intro j y u hy hu
    rw[List.getElem?_take] at hy
    split at hy
    case isFalse=>cases hy
    rename_i hj
    have hu':u=vals j:=by
     simp[hj] at hu
     exact hu.symm
    subst hu'
    exact hrep j y hy
   ·intro j u hu
    have hj:j < i.size:=by
     have:=(Array.getElem?_eq_some_iff.1 hu).1
     simpa using this
    have hu':u=vals j:=by
     simp[hj] at hu
     exact hu.symm
    subst hu'
    exact hone j _ (List.getElem?_eq_getElem (show j < cells.length by omega))
 ·rename_i hagg
  have hl:=H.run_load w b off vals (fun j hj=>by
   rw[if_neg hagg] at hj
   obtain rfl:j=0:=by omega
   exact (hcell 0 _ h).1)
  rw[if_neg hagg] at hl
  exact⟨vals 0,by simp[execOp,ho,hv,Instr.loadAt,Instr.sureAddr,hl],hrep 0 r h⟩
theorem IF {μ:Mu} {F:c8} {w:World} {cells:List AV} {b o:Nat} (h:bP μ F w (.ref cells) (.pointer (some ⟨b,o,none⟩))) (n:Nat):
  bP μ F w (.ref (cells.drop n)) (.pointer (some ⟨b,o+n,none⟩)):=by
 obtain⟨b',o',vals,he,hone,hcell,hrep⟩:=h.ref_inv
 cases he
 refine .ref _ _ _ (fun j=>vals (n+j)) ?_ ?_ ?_
 ·intro j c hc
  rw[List.getElem?_drop] at hc
  exact hone _ _ hc
 ·intro j c hc
  rw[List.getElem?_drop] at hc
  have:=hcell _ _ hc
  rw[Nat.add_assoc]
  exact this
 ·intro j c hc
  rw[List.getElem?_drop] at hc
  exact hrep _ _ hc
theorem iE {μ:Mu} {F:c8} {w:World} {cells:List AV} {v:Value} (h:bP μ F w (.ref cells) v):∃b o,v=.pointer (some ⟨b,o,none⟩):=by
 obtain⟨b,o,_,rfl,_⟩:=h.ref_inv
 exact⟨b,o,rfl⟩
def KX (τ:Tab) (t:TypeId) (j:Nat) (x:AV):Option AV:=
 match x,fieldAt τ t j with
 |.ref cells,some (o,fi)=>if fi.size≠0 then some (.ref (cells.drop o)) else none
 |_,_=>none
theorem vE {P:Program} {t:TypeId} {fs:Array Field} {j:Nat} {f:Field} {fi:TI} {ff:TypeInfo} {fd:TypeDesc} {fz:Value} (w:World) (hu:P.underlying t=some (.struct fs)) (hj:fs[j]? =some f)
  (H:KA P f.type fi ff fd fz) (hs:fi.size≠0) (b o:Nat):(Instr.fieldAt t (.pointer (some ⟨b,o,none⟩)) j).run P w=.ok (.pointer (some ⟨b,o+f.offset,none⟩)) w:=by
 simp[Instr.fieldAt,run_underlying hu,hj,Instr.sureAddr,fieldPlace,run_sizeOf w H.info,H.cellsOf,hs,H.size,Addr.add_lit]
theorem SF {P:Program} {τ:Tab} (hτ:TabOK P τ) {t:TypeId} {x:Operand} {j:Nat} {ty:TypeId} {ρ:Operand→AV} {r:AV} (h:KX τ t j (ρ x)=some r):jF P (.fieldAddr t x j) ty ρ r:=by
 refine b7 ?_
 intro μ F w ρc o ho ht hr
 have hx:=hr x (by simp[Op.operands])
 unfold KX at h
 split at h
 case h_2=>cases h
 rename_i cells of_ fi e hfa
 obtain⟨fs,f,ff,fd,fz,hu,hj,hoff,H⟩:=jQ hτ hfa
 split at h
 case isFalse=>cases h
 rename_i hs
 cases h
 rw[e] at hx
 obtain⟨b,off,hv⟩:=iE hx
 rw[hv] at hx
 subst hoff
 refine⟨_,?_,IF hx _⟩
 simp[execOp,ho,hv,vE w hu hj H hs]
theorem SW {P:Program} {τ:Tab} (hτ:TabOK P τ) {t e:TypeId} {ti ei:TI} (ht:aJ τ t=some ti) (hk:ti.k=.slice e) (he:aJ τ e=some ei) {X I:Operand} {ty:TypeId} {ρ:Operand→AV} {sz:Nat} {xs:List AV} {tag:eE}
  {k:IntKind} {i:Int} {x:AV} (hX:ρ X=.sl sz xs tag) (hI:ρ I=.int k i) (h0:0≤i) (hel:xs[i.toNat]? =some x) (hsz:sz=ei.size):jF P (.indexAddr t X I) ty ρ (.ref x.cells):=by
 refine b7 ?_
 intro μ F w ρc o ho hty hr
 have hx:=hr X (by simp[Op.operands])
 have hi:=hr I (by simp[Op.operands])
 rw[hX] at hx
 rw[hI] at hi
 generalize hv:ρc X=v at hx
 generalize hvi:ρc I=vi at hi
 cases hi
 obtain⟨A,cap,ad,vals,rfl,hs,hcap,hA,hone,hcell,hrep,htag⟩:=hx.sl_inv
 obtain⟨ft,dt,zt,HT⟩:=TI.spec hτ ht
 obtain⟨fe,de,ze,HE⟩:=TI.spec hτ he
 have hf:=HT.fits
 rw[hk] at hf
 have hdd:dt=.slice e:=by
  cases dt<;>simp[TK.fits] at hf
  rw[hf]
 subst hdd
 have hlt:i.toNat < xs.length:=(List.getElem?_eq_some_iff.1 hel).1
 obtain⟨rfl,hspot⟩:=hA (by omega)
 have hszx:=hsz
 obtain⟨bb,oo,ss⟩:=ad
 simp only at hspot
 subst hspot
 refine⟨.pointer (some ⟨bb,oo+i.toNat*sz,none⟩),?_,?_⟩
 ·simp only[execOp,ho,hv,hvi,Instr.indexAt,asIntOf,Sem.run_bind,Sem.run_pure,Result.andThen_ok,run_underlying HT.und]
  rw[if_pos ⟨h0,by omega⟩]
  simp[run_sizeOf w HE.info,HE.cellsOf,HE.size,hszx,Addr.add_lit]
 ·refine .ref _ _ _ (fun j=>vals (i.toNat*sz+j)) ?_ ?_ ?_
  ·intro j c hc
   exact hone _ _ _ _ hel hc
  ·intro j c hc
   have:=hcell _ _ _ _ hel hc
   simp only at this
   rw[Nat.add_assoc]
   exact this
  ·intro j c hc
   exact hrep _ _ _ _ hel hc
theorem YT {P:Program} {τ:Tab} (hτ:TabOK P τ) {t:TypeId} {ti:TI} (ht:aJ τ t=some ti) (hk:ti.k=.str) {X I:Operand} {ty:TypeId} {ρ:Operand→AV} {s:List UInt8}
  {k:IntKind} {i:Int} {c:UInt8} (hX:ρ X=.str s) (hI:ρ I=.int k i) (h0:0≤i) (hel:s[i.toNat]? =some c):jF P (.index t X I) ty ρ (.int .u8 c.toNat):=by
 refine b7 ?_
 intro μ F w ρc o ho hty hr
 have hx:=hr X (by simp[Op.operands])
 have hi:=hr I (by simp[Op.operands])
 rw[hX] at hx
 rw[hI] at hi
 generalize hv:ρc X=v at hx
 generalize hvi:ρc I=vi at hi
 cases hi
 cases hx
 obtain⟨ft,dt,zt,HT⟩:=TI.spec hτ ht
 have hf:=HT.fits
 rw[hk] at hf
 have hdd:dt=.string:=by
  cases dt<;>simp[TK.fits] at hf
  rfl
 subst hdd
 refine⟨_,?_,.int _ _⟩
 have hg:(⟨s.toArray⟩:ByteArray)[i.toNat]? =some c:=by
  have hlt:=(List.getElem?_eq_some_iff.1 hel).1
  have hsz:(⟨s.toArray⟩:ByteArray).size=s.length:=by simp[ByteArray.size]
  rw[getElem?_pos _ _ (by rw[hsz];exact hlt)]
  congr 1
  have:=(List.getElem?_eq_some_iff.1 hel).2
  rw[←this]
  rfl
 simp only[execOp,ho,hv,hvi,Instr.index,asIntOf,Sem.run_bind,Sem.run_pure,Result.andThen_ok,run_underlying HT.und,if_pos h0,hg]
def a8t (x:AV):Option AV:=
 match x with
 |.str s=>some (.int .i64 s.length)
 |.sl _ xs _=>some (.int .i64 xs.length)
 |.nilmap=>some (.int .i64 0)
 |_=>none
def wW:TK→AV→Bool
 |.str,.str _=>true
 |.slice _,.sl _ _ _=>true
 |.map _ _,.nilmap=>true
 |_,_=>false
def ZG (τ:Tab) (t:TypeId) (x:AV):Option AV:=
 match aJ τ t with
 |some i=>if wW i.k x=true then a8t x else none
 |none=>none
theorem nH (s:List UInt8):(⟨s.toArray⟩:ByteArray).size=s.length:=by simp[ByteArray.size]
theorem a3p {P:Program} {τ:Tab} (hτ:TabOK P τ) {t:TypeId} {x:Operand} {ty:TypeId} {ρ:Operand→AV} {r:AV} (h:ZG τ t (ρ x)=some r):
  jF P (.call {callee:=.builtin .len,args:=#[x],argTypes:=#[t]}) ty ρ r:=by
 refine b7 ?_
 intro μ F w ρc o ho hty hr
 have hx:=hr x (by simp[Op.operands,Call.operands])
 generalize hv:ρc x=v at hx
 unfold ZG at h
 split at h
 case h_2=>cases h
 rename_i i hi
 split at h
 case isFalse=>cases h
 rename_i hfit
 obtain⟨f,d,z,H⟩:=TI.spec hτ hi
 have hf:=H.fits
 generalize i.k=kk at hfit hf
 unfold a8t at h
 split at h<;>cases h
 ·rename_i e
  rw[e] at hx hfit
  cases hx
  have hdd:d=.string:=by
   cases kk<;>simp[wW] at hfit
   cases d<;>simp[TK.fits] at hf
   rfl
  subst hdd
  exact⟨_,by simp[execOp,ho,resolve,invoke,builtin,Builtin.len_,hv,run_underlying H.und,nH,goInt],.int _ _⟩
 ·rename_i sz xs tg e
  rw[e] at hx hfit
  cases hx
  obtain⟨el,hdd⟩:∃e,d=.slice e:=by
   cases kk<;>simp[wW] at hfit
   cases d<;>simp[TK.fits] at hf
   exact⟨_,rfl⟩
  subst hdd
  exact⟨_,by simp[execOp,ho,resolve,invoke,builtin,Builtin.len_,hv,run_underlying H.und,goInt],.int _ _⟩
 ·rename_i e
  rw[e] at hx hfit
  cases hx
  obtain⟨k',el,hdd⟩:∃k e,d=.map k e:=by
   cases kk<;>simp[wW] at hfit
   cases d<;>simp[TK.fits] at hf
   exact⟨_,_,rfl⟩
  subst hdd
  exact⟨_,by simp[execOp,ho,resolve,invoke,builtin,Builtin.len_,hv,run_underlying H.und,goInt],.int _ _⟩
def amm (mx:Bool) (x y:AV):Option AV:=
 match x,y with
 |.int k a,.int _ b=>some (.int k (if mx then (if a < b then b else a) else (if b < a then b else a)))
 |_,_=>none
theorem a3s {P:Program} {x y:Operand} {ts:Array TypeId} {ty:TypeId} {ρ:Operand→AV} {r:AV} (h:amm false (ρ x) (ρ y)=some r):
  jF P (.call {callee:=.builtin .min,args:=#[x,y],argTypes:=ts}) ty ρ r:=by
 refine b7 ?_
 intro μ F w ρc o ho hty hr
 have hx:=hr x (by simp[Op.operands,Call.operands])
 have hy:=hr y (by simp[Op.operands,Call.operands])
 generalize hv:ρc x=v at hx
 generalize hu:ρc y=u at hy
 unfold amm at h
 split at h<;>cases h
 rename_i k a k' b e1 e2
 rw[e1] at hx
 rw[e2] at hy
 cases hx
 cases hy
 exact⟨_,by simp[execOp,ho,resolve,invoke,builtin,Builtin.min_,Builtin.min2,hv,hu],.int _ _⟩
theorem a3n {P:Program} {x y:Operand} {ts:Array TypeId} {ty:TypeId} {ρ:Operand→AV} {r:AV} (h:amm true (ρ x) (ρ y)=some r):
  jF P (.call {callee:=.builtin .max,args:=#[x,y],argTypes:=ts}) ty ρ r:=by
 refine b7 ?_
 intro μ F w ρc o ho hty hr
 have hx:=hr x (by simp[Op.operands,Call.operands])
 have hy:=hr y (by simp[Op.operands,Call.operands])
 generalize hv:ρc x=v at hx
 generalize hu:ρc y=u at hy
 unfold amm at h
 split at h<;>cases h
 rename_i k a k' b e1 e2
 rw[e1] at hx
 rw[e2] at hy
 cases hx
 cases hy
 exact⟨_,by simp[execOp,ho,resolve,invoke,builtin,Builtin.max_,Builtin.max2,hv,hu],.int _ _⟩
end Go.Ab
