/- Parts of the proof, one behind the other. No further condition. -/
import Derived.Test.YtbcaejhhgkcgpaaGreatDoorK08
import Derived.RangeFuncRecord
set_option linter.unusedVariables false
set_option linter.unusedSimpArgs false
namespace Go.Ab
open Go.RowKit
def pos:List Nat→Nat→Option Nat
 |[],_=>none
 |a::r,i=>if i=a then some 0 else match pos r i with|some k=>some (k+1)|none=>none
theorem pos_some:∀{ids:List Nat} {i k:Nat},pos ids i=some k→ids[k]? =some i
 |[],_,_,h=>by cases h
 |a::r,i,k,h=>by
  simp only[pos] at h
  split at h
  ·cases h;subst_vars;rfl
  ·split at h
   ·rename_i k' hk
    cases h
    show (a::r)[_+1]? =some i
    rw[List.getElem?_cons_succ]
    exact pos_some hk
   ·cases h
theorem pos_none:∀{ids:List Nat} {i:Nat},pos ids i=none→i∉ids
 |[],_,_=>by simp
 |a::r,i,h=>by
  simp only[pos] at h
  split at h
  ·cases h
  ·rename_i hne
   split at h
   ·cases h
   ·rename_i hk
    simp only[List.mem_cons,not_or]
    exact⟨hne,pos_none hk⟩
theorem nodup_get {ids:List Nat} (hnd:ids.Nodup) {i j k:Nat} (h1:ids[j]? =some i) (h2:ids[k]? =some i):j=k:=by
 obtain⟨hj,e1⟩:=List.getElem?_eq_some_iff.1 h1
 obtain⟨hk,e2⟩:=List.getElem?_eq_some_iff.1 h2
 have hp:=List.pairwise_iff_getElem.1 hnd
 rcases Nat.lt_trichotomy j k with h|h|h
 ·exact absurd (e1.trans e2.symm) (hp j k hj hk h)
 ·exact h
 ·exact absurd (e2.trans e1.symm) (hp k j hk hj h)
theorem pos_of {ids:List Nat} (hnd:ids.Nodup) {i k:Nat} (h:ids[k]? =some i):pos ids i=some k:=by
 cases hp:pos ids i with
 |none=>exact absurd (List.mem_of_getElem? h) (pos_none hp)
 |some j=>rw[nodup_get hnd (pos_some hp) h]
theorem pos_no {ids:List Nat} {i:Nat} (h:i∉ids):pos ids i=none:=by
 cases hp:pos ids i with
 |none=>rfl
 |some j=>exact absurd (List.mem_of_getElem? (pos_some hp)) h
def pull (ids:List Nat) (μ:Mu):Mu:=fun k=>match ids[k]? with|some i=>μ i|none=>none
def pullF (ids:List Nat) (μ:Mu) (F:Frm):Frm:=fun b o=>F b o∨(Own μ b o∧¬Own (pull ids μ) b o)
def push (ids:List Nat) (n:Nat) (μ μ1:Mu):Mu:=fun i=>match pos ids i with|some k=>μ1 k|none=>if i < n then μ i else μ1 (ids.length+(i - n))
theorem pull_at {ids:List Nat} {μ:Mu} {k i:Nat} (h:ids[k]? =some i):pull ids μ k=μ i:=by unfold pull;rw[h]
theorem pull_own {ids:List Nat} {μ:Mu} {b o:Nat} (h:Own (pull ids μ) b o):Own μ b o:=by
 obtain⟨k,h⟩:=h
 unfold pull at h
 cases hk:ids[k]? with
 |none=>rw[hk] at h;rcases h with h|⟨e,g,h,_⟩<;>cases h
 |some i=>rw[hk] at h;exact⟨i,h⟩
theorem pull_lies {ids:List Nat} {μ:Mu} {k b:Nat} (h:Lies (pull ids μ) k b):∃i,ids[k]? =some i∧Lies μ i b:=by
 unfold Lies pull at h
 cases hk:ids[k]? with
 |none=>rw[hk] at h;rcases h with h|⟨e,g,h⟩<;>cases h
 |some i=>rw[hk] at h;exact⟨i,rfl,h⟩
theorem own_lies {μ:Mu} {b o:Nat} (h:Own μ b o):∃i,Lies μ i b:=by
 obtain⟨i,h|⟨e,g,h,_⟩⟩:=h
 ·exact⟨i,.inl h⟩
 ·exact⟨i,.inr ⟨e,g,h⟩⟩
theorem lies_own {μ:Mu} {b i:Nat} (h:Lies μ i b):∃o,Own μ b o:=by
 rcases h with h|⟨e,g,h⟩
 ·exact⟨0,i,.inl h⟩
 ·exact⟨e,i,.inr ⟨e,g,h,Nat.le_refl _⟩⟩
theorem pull_free {ids:List Nat} {μ:Mu} {F:Frm} {b o:Nat} (h:Free μ F b o):Free (pull ids μ) (pullF ids μ F) b o:=
 ⟨fun hf=>hf.elim h.1 fun hf=>h.2 hf.1,fun ho=>h.2 (pull_own ho)⟩
def InV (ids:List Nat) (x y:AV):Prop:=∀(μ:Mu) (F:Frm) (w:World) (v:Value),Rep μ F w x v→Rep (pull ids μ) (pullF ids μ F) w y v
def OutV (ids:List Nat) (n:Nat) (x y:AV):Prop:=∀(μ1 μ:Mu) (F F1:Frm) (w:World) (v:Value),(∀b o,Free μ1 F1 b o→Free μ F b o)→(∀k i,ids[k]? =some i→μ i=μ1 k)→(∀k,ids.length≤k→μ (n+(k - ids.length))=μ1 k)→
 Rep μ1 F1 w x v→Rep μ F w y v
section
variable {ids:List Nat} {n:Nat}
theorem InV.closed {x:AV} (h:Closed x):InV ids x x:=fun μ F w v hr=>h μ _ F _ w v (fun _ _=>pull_free) hr
theorem InV.sub {x y z:AV} (h:InV ids x y) (h2:Sub y z):InV ids x z:=fun μ F w v hr=>h2 _ _ _ _ (h μ F w v hr)
theorem InV.pre {x y z:AV} (h:Sub x y) (h2:InV ids y z):InV ids x z:=fun μ F w v hr=>h2 μ F w v (h _ _ _ _ hr)
theorem InV.ptr {k i off:Nat} (h:ids[k]? =some i):InV ids (.ptr i off) (.ptr k off):=by
 intro μ F w v hr
 cases hr with
 |ptr _ _ _ h1 h2 h3=>exact .ptr k off v h1 (by rw[pull_at h];exact h2) (fun b hb=>h3 b (by rw[←pull_at (μ:=μ) h];exact hb))
theorem InV.osl {k i off m cap sz:Nat} (h:ids[k]? =some i):InV ids (.osl i off m cap sz) (.osl k off m cap sz):=by
 intro μ F w v hr
 cases hr with
 |osl _ _ _ _ _ _ h1 h2 h3=>exact .osl k off m cap sz v h1 (by rw[pull_at h];exact h2) (fun b hb=>h3 b (by rw[←pull_at (μ:=μ) h];exact hb))
theorem InV.bsl {k i g m cap:Nat} (h:ids[k]? =some i):InV ids (.bsl i g m cap) (.bsl k g m cap):=by
 intro μ F w v hr
 cases hr with
 |bsl _ _ _ _ _ h1 h2=>exact .bsl _ _ _ _ v h1 (by rw[pull_at h];exact h2)
theorem InV.map {k i:Nat} (h:ids[k]? =some i):InV ids (.map i) (.map k):=by
 intro μ F w v hr
 cases hr with
 |map _ _ h1 h2 h3=>exact .map k v h1 (by rw[pull_at h];exact h2) (fun b hb=>h3 b (by rw[←pull_at (μ:=μ) h];exact hb))
theorem InV.tok {k i g sz:Nat} {xs:List AV} (h:ids[k]? =some i) (hc:∀x,x∈xs→(∀c,c∈x.cells→Closed c)):InV ids (.sl sz xs (.tok i g)) (.sl sz xs (.tok k g)):=by
 intro μ F w v hr
 cases hr with
 |sl _ _ _ A cap ad vals hsz hcap hA hone hcell hrep htag=>
  refine .sl sz xs _ A cap ad vals hsz hcap hA hone ?_ ?_ ?_
  ·intro a x j c hx hcx
   exact⟨(hcell a x j c hx hcx).1,pull_free (hcell a x j c hx hcx).2⟩
  ·intro a x j c hx hcx
   exact hc x (List.mem_of_getElem? hx) c (List.mem_of_getElem? hcx) μ _ F _ w _ (fun _ _=>pull_free) (hrep a x j c hx hcx)
  ·show TagOK (pull ids μ) w A xs.length cap sz (.tok k g)
   simp only[TagOK] at htag ⊢
   rw[pull_at h]
   exact htag
theorem InV.agg {l m:List AV} (hl:l.length=m.length) (h:∀(i:Nat) (x y:AV),l[i]? =some x→m[i]? =some y→InV ids x y):InV ids (.agg l) (.agg m):=by
 intro μ F w v hr
 obtain⟨c,rfl,hs,hc,h1⟩:=hr.agg_inv
 refine .agg m c (hs.trans hl) (fun i y u hy hu=>?_) h1
 have hi:i < l.length:=by rw[hl];exact (List.getElem?_eq_some_iff.1 hy).1
 exact h i _ y (List.getElem?_eq_getElem hi) hy μ F w u (hc i _ u (List.getElem?_eq_getElem hi) hu)
theorem OutV.closed {x:AV} (h:Closed x):OutV ids n x x:=fun μ1 μ F F1 w v hf _ _ hr=>h μ1 μ F1 F w v hf hr
theorem OutV.pre {x y z:AV} (h:Sub x y) (h2:OutV ids n y z):OutV ids n x z:=fun μ1 μ F F1 w v a b c hr=>h2 μ1 μ F F1 w v a b c (h _ _ _ _ hr)
theorem OutV.sub {x y z:AV} (h:OutV ids n x y) (h2:Sub y z):OutV ids n x z:=fun μ1 μ F F1 w v a b c hr=>h2 _ _ _ _ (h μ1 μ F F1 w v a b c hr)
theorem OutV.top {x:AV}:OutV ids n x .top:=fun _ _ _ _ _ v _ _ _ _=>.top v
def sg (ids:List Nat) (n k:Nat):Nat:=match ids[k]? with|some i=>i|none=>n+(k - ids.length)
theorem sg_mu {μ μ1:Mu} (h1:∀k i,ids[k]? =some i→μ i=μ1 k) (h2:∀k,ids.length≤k→μ (n+(k - ids.length))=μ1 k) (k:Nat):μ (sg ids n k)=μ1 k:=by
 unfold sg
 cases hk:ids[k]? with
 |some i=>exact h1 k i hk
 |none=>exact h2 k (List.getElem?_eq_none_iff.1 hk)
theorem OutV.ptr {k off:Nat}:OutV ids n (.ptr k off) (.ptr (sg ids n k) off):=by
 intro μ1 μ F F1 w v _ a b hr
 cases hr with
 |ptr _ _ _ h1 h2 h3=>exact .ptr _ off v h1 (by rw[sg_mu a b];exact h2) (fun c hc=>h3 c (by rw[←sg_mu a b];exact hc))
theorem OutV.osl {k off m cap sz:Nat}:OutV ids n (.osl k off m cap sz) (.osl (sg ids n k) off m cap sz):=by
 intro μ1 μ F F1 w v _ a b hr
 cases hr with
 |osl _ _ _ _ _ _ h1 h2 h3=>exact .osl _ off m cap sz v h1 (by rw[sg_mu a b];exact h2) (fun c hc=>h3 c (by rw[←sg_mu a b];exact hc))
theorem OutV.bsl {k g m cap:Nat}:OutV ids n (.bsl k g m cap) (.bsl (sg ids n k) g m cap):=by
 intro μ1 μ F F1 w v hf h1 h2 hr
 cases hr with
 |bsl _ _ _ _ _ a1 a2=>exact .bsl _ _ _ _ v a1 (by rw[sg_mu h1 h2];exact a2)
theorem OutV.map {k:Nat}:OutV ids n (.map k) (.map (sg ids n k)):=by
 intro μ1 μ F F1 w v _ a b hr
 cases hr with
 |map _ _ h1 h2 h3=>exact .map _ v h1 (by rw[sg_mu a b];exact h2) (fun c hc=>h3 c (by rw[←sg_mu a b];exact hc))
theorem OutV.tok {k g sz:Nat} {xs:List AV} (hc:∀x,x∈xs→(∀c,c∈x.cells→Closed c)):OutV ids n (.sl sz xs (.tok k g)) (.sl sz xs (.tok (sg ids n k) g)):=by
 intro μ1 μ F F1 w v hf a b hr
 cases hr with
 |sl _ _ _ A cap ad vals hsz hcap hA hone hcell hrep htag=>
  refine .sl sz xs _ A cap ad vals hsz hcap hA hone ?_ ?_ ?_
  ·intro q x j c hx hcx
   exact⟨(hcell q x j c hx hcx).1,hf _ _ (hcell q x j c hx hcx).2⟩
  ·intro q x j c hx hcx
   exact hc x (List.mem_of_getElem? hx) c (List.mem_of_getElem? hcx) μ1 μ F1 F w _ hf (hrep q x j c hx hcx)
  ·show TagOK μ w A xs.length cap sz (.tok (sg ids n k) g)
   simp only[TagOK] at htag ⊢
   rw[sg_mu a b]
   exact htag
theorem OutV.agg {l m:List AV} (hl:l.length=m.length) (h:∀(i:Nat) (x y:AV),l[i]? =some x→m[i]? =some y→OutV ids n x y):OutV ids n (.agg l) (.agg m):=by
 intro μ1 μ F F1 w v a b c' hr
 obtain⟨c,rfl,hs,hc,h1⟩:=hr.agg_inv
 refine .agg m c (hs.trans hl) (fun i y u hy hu=>?_) h1
 have hi:i < l.length:=by rw[hl];exact (List.getElem?_eq_some_iff.1 hy).1
 exact h i _ y (List.getElem?_eq_getElem hi) hy μ1 μ F F1 w u a b c' (hc i _ u (List.getElem?_eq_getElem hi) hu)
theorem OutV.tup {l m:List AV} (hl:l.length=m.length) (h:∀(i:Nat) (x y:AV),l[i]? =some x→m[i]? =some y→OutV ids n x y):OutV ids n (.tup l) (.tup m):=by
 intro μ1 μ F F1 w v a b c' hr
 obtain⟨c,rfl,hs,hc⟩:=hr.tup_inv
 refine .tup m c (hs.trans hl) (fun i y u hy hu=>?_)
 have hi:i < l.length:=by rw[hl];exact (List.getElem?_eq_some_iff.1 hy).1
 exact h i _ y (List.getElem?_eq_getElem hi) hy μ1 μ F F1 w u a b c' (hc i _ u (List.getElem?_eq_getElem hi) hu)
def InL (ids:List Nat):List AV→List AV→Prop
 |[],[]=>True
 |x::l,y::m=>InV ids x y∧InL ids l m
 |_,_=>False
theorem InL.len:∀{l m:List AV},InL ids l m→l.length=m.length
 |[],[],_=>rfl
 |_::_,_::_,h=>congrArg (·+1) (InL.len h.2)
theorem InL.get:∀{l m:List AV},InL ids l m→∀(i:Nat) (x y:AV),l[i]? =some x→m[i]? =some y→InV ids x y
 |[],[],_,i,_,_,hx,_=>by simp at hx
 |a::l,b::m,h,0,x,y,hx,hy=>by cases hx;cases hy;exact h.1
 |a::l,b::m,h,i+1,x,y,hx,hy=>InL.get h.2 i x y hx hy
theorem InL.closed:∀{l:List AV},(∀x,x∈l→Closed x)→InL ids l l
 |[],_=>trivial
 |x::l,h=>⟨.closed (h x (by simp)),InL.closed fun y hy=>h y (by simp[hy])⟩
def OutL (ids:List Nat) (n:Nat):List AV→List AV→Prop
 |[],[]=>True
 |x::l,y::m=>OutV ids n x y∧OutL ids n l m
 |_,_=>False
theorem OutL.len:∀{l m:List AV},OutL ids n l m→l.length=m.length
 |[],[],_=>rfl
 |_::_,_::_,h=>congrArg (·+1) (OutL.len h.2)
theorem OutL.get:∀{l m:List AV},OutL ids n l m→∀(i:Nat) (x y:AV),l[i]? =some x→m[i]? =some y→OutV ids n x y
 |[],[],_,i,_,_,hx,_=>by simp at hx
 |a::l,b::m,h,0,x,y,hx,hy=>by cases hx;cases hy;exact h.1
 |a::l,b::m,h,i+1,x,y,hx,hy=>OutL.get h.2 i x y hx hy
theorem OutL.closed:∀{l:List AV},(∀x,x∈l→Closed x)→OutL ids n l l
 |[],_=>trivial
 |x::l,h=>⟨.closed (h x (by simp)),OutL.closed fun y hy=>h y (by simp[hy])⟩
theorem RawAt.to {μ μ':Mu} {i j:Nat} {g:Option Nat} {b:Nat} (h:RawAt μ i g b) (e:μ' j=μ i):RawAt μ' j g b:=by
 cases g with
 |none=>exact e.trans h
 |some n=>exact e.trans h
def InO (ids:List Nat):AObj→AObj→Prop
 |.cells l,.cells m=>InL ids l m
 |.spare g,.spare g'=>g=g'
 |.raw g o vs t,.raw g' o' vs' t'=>g=g'∧o=o'∧vs=vs'∧t=[]∧t'=[]
 |_,_=>False
def OutO (ids:List Nat) (n:Nat):AObj→AObj→Prop
 |.cells l,.cells m=>OutL ids n l m
 |.spare g,.spare g'=>g=g'
 |.raw g o vs t,.raw g' o' vs' t'=>g=g'∧o=o'∧vs=vs'∧t=[]∧t'=[]
 |_,_=>False
def OutE (ids:List Nat) (n:Nat):AEnd→AEnd→Prop
 |.ret x,.ret y=>OutV ids n x y
 |.pan x,.pan y=>OutV ids n x y
 |_,_=>False
def OutM (ids:List Nat) (M M1 N:Mem):Prop:=N.next=M.next+(M1.next - ids.length)∧∀i o,N.get i=some o→
 (∃k o1,(ids[k]? =some i∨ids.length≤k∧i=M.next+(k - ids.length))∧M1.get k=some o1∧OutO ids M.next o1 o)∨(i∉ids∧M.get i=some o)
theorem ACalls.frame {P:Program} {g:FuncId} {args args1:List AV} {M N0:Mem} {R R1:AEnd→Mem→Prop} (ids:List Nat) (hnd:ids.Nodup) (hlt:∀i,i∈ids→i < M.next) (hn:N0.next=ids.length)
  (hobj:∀k o1,N0.get k=some o1→∃i o,ids[k]? =some i∧M.get i=some o∧InO ids o o1) (h:ACalls P g args1 N0 R1) (hargs:InL ids args args1)
  (hR:∀e M1,R1 e M1→∃e' N,OutE ids M.next e e'∧OutM ids M M1 N∧R e' N):ACalls P g args M R:=by
 refine⟨h.1,fun μ F w vs hg hv=>?_⟩
 have hLi:∀{i b},Lies μ i b→i∉ids→∀o,¬Own (pull ids μ) b o:=by
  intro i b hi hni o ho
  obtain⟨k,hk⟩:=own_lies ho
  obtain⟨i',hk',hi'⟩:=pull_lies hk
  have:=hg.inj i i' b hi hi'
  subst this
  exact hni (List.mem_of_getElem? hk')
 have hg0:Gam (pull ids μ) (pullF ids μ F) N0 w:=by
  refine⟨?_,?_,?_,?_,?_,?_,?_⟩
  ·intro k
   rw[hn]
   constructor
   ·intro hk
    refine Nat.lt_of_not_le fun hle=>hk ?_
    unfold pull
    rw[List.getElem?_eq_none hle]
   ·intro hk
    rw[pull_at (List.getElem?_eq_getElem hk)]
    exact (hg.dom _).2 (hlt _ (List.getElem_mem hk))
  ·intro k l1 hk
   obtain⟨i,o,hi,hM,hO⟩:=hobj k _ hk
   cases o with
   |spare g=>exact hO.elim
   |raw _ _ _ _=>exact hO.elim
   |cells l=>
    obtain⟨b,c,ty,h1,h2,h3,h4,h5⟩:=hg.obj i l hM
    have hO:InL ids l l1:=hO
    refine⟨b,c,ty,(pull_at hi).trans h1,h2,h3.trans hO.len,h4,?_⟩
    intro j y v hy hv
    have hj:j < l.length:=by rw[hO.len];exact (List.getElem?_eq_some_iff.1 hy).1
    exact hO.get j _ y (List.getElem?_eq_getElem hj) hy μ F w v (h5 j _ v (List.getElem?_eq_getElem hj) hv)
  ·intro k g1 hk
   obtain⟨i,o,hi,hM,hO⟩:=hobj k _ hk
   cases o with
   |cells l=>exact hO.elim
   |raw _ _ _ _=>exact hO.elim
   |spare g=>
    have hO:g=g1:=hO
    subst hO
    obtain⟨p,h1,h2⟩:=hg.spare i g hM
    exact⟨p,(pull_at hi).trans h1,h2⟩
  ·intro j k b hj hk
   obtain⟨i,h1,h2⟩:=pull_lies hj
   obtain⟨i',h3,h4⟩:=pull_lies hk
   have:=hg.inj i i' b h2 h4
   subst this
   exact nodup_get hnd h1 h3
  ·rintro b o ho (hf|hf)
   ·exact hg.frm b o (pull_own ho) hf
   ·exact hf.2 ho
  ·refine⟨fun b o ho=>hg.fit.own b o (pull_own ho),?_⟩
   rintro b o (hf|hf)
   ·exact hg.fit.frm b o hf
   ·exact hg.fit.own b o hf.1
  ·intro k gg o1 vs t hk
   obtain⟨i,o,hi,hM,hO⟩:=hobj k _ hk
   cases o with
   |cells l=>exact hO.elim
   |spare g=>exact hO.elim
   |raw g0 o0 vs0 t0=>
    obtain⟨rfl,rfl,rfl,rfl,rfl⟩:g0=gg∧o0=o1∧vs0=vs∧t0=[]∧t=[]:=hO
    obtain⟨b,h1,h2,h3⟩:=hg.raw i _ _ _ _ hM
    exact⟨b,h1.to (pull_at hi),h2,fun j=>.top _⟩
 refine (h.2 _ _ w vs hg0 ⟨hv.1.trans hargs.len,fun i y v hy hv'=>?_⟩).mono ?_
 ·have hi:i < args.length:=by rw[hargs.len];exact (List.getElem?_eq_some_iff.1 hy).1
  exact hargs.get i _ y (List.getElem?_eq_getElem hi) hy μ F w v (hv.2 i _ v (List.getElem?_eq_getElem hi) hv')
 rintro e w' ⟨μ1,M1,hev,hg1,hend⟩
 have hp1:∀{k i},ids[k]? =some i→push ids M.next μ μ1 i=μ1 k:=by
  intro k i hk
  unfold push
  rw[pos_of hnd hk]
 have hp2:∀{i},i∉ids→i < M.next→push ids M.next μ μ1 i=μ i:=by
  intro i hni hlt
  unfold push
  rw[pos_no hni]
  simp[hlt]
 have hp3:∀k,ids.length≤k→push ids M.next μ μ1 (M.next+(k - ids.length))=μ1 k:=by
  intro k hk
  have hni:M.next+(k - ids.length)∉ids:=fun hm=>by have:=hlt _ hm;omega
  unfold push
  rw[pos_no hni]
  have:ids.length+(M.next+(k - ids.length) - M.next)=k:=by omega
  simp only[this]
  rw[if_neg (by omega)]
 have hcase:∀i,(∃k,(ids[k]? =some i∨ids.length≤k∧i=M.next+(k - ids.length))∧push ids M.next μ μ1 i=μ1 k)∨(i∉ids∧i < M.next∧push ids M.next μ μ1 i=μ i):=by
  intro i
  cases hp:pos ids i with
  |some k=>exact .inl ⟨k,.inl (pos_some hp),hp1 (pos_some hp)⟩
  |none=>
   have hni:=pos_none hp
   by_cases hlt':i < M.next
   ·exact .inr ⟨hni,hlt',hp2 hni hlt'⟩
   ·refine .inl ⟨ids.length+(i - M.next),.inr ⟨by omega,by omega⟩,?_⟩
    have:=hp3 (ids.length+(i - M.next)) (by omega)
    have e:M.next+(ids.length+(i - M.next) - ids.length)=i:=by omega
    rw[e] at this
    exact this
 have hown1:∀{i b o k},push ids M.next μ μ1 i=μ1 k→(push ids M.next μ μ1 i=some (.at b)∨∃e g,push ids M.next μ μ1 i=some (.spare (some (b,e)) g)∧e≤o)→Own μ1 b o:=by
  intro i b o k hk ho
  rw[hk] at ho
  exact⟨k,ho⟩
 have hev':Evo w μ w' (push ids M.next μ μ1):=by
  refine⟨hev.os,hev.tape,hev.output,hev.size,?_,fun b hb hno=>hev.same b hb fun o ho=>hno o (pull_own ho),fun b e c ty fr hb hno hc=>hev.part b e c ty fr hb (fun o ho=>hno o (pull_own ho)) hc,?_⟩
  ·intro id hid
   have hlt':=(hg.dom id).1 hid
   rcases hcase id with ⟨k,hk,hpk⟩|⟨hni,_,hpi⟩
   ·rcases hk with hk|⟨_,hk⟩
    ·rw[hpk]
     have:=hev.mu k (by rw[pull_at hk];exact hid)
     rw[pull_at hk] at this
     exact this
    ·omega
   ·exact .inl hpi
  ·rintro b o hb ⟨i,ho⟩
   rcases hcase i with ⟨k,_,hpk⟩|⟨hni,_,hpi⟩
   ·exact pull_own (hev.own b o hb (hown1 hpk ho))
   ·rw[hpi] at ho
    exact⟨i,ho⟩
 have hfree:∀b o,Free μ1 (pullF ids μ F) b o→Free (push ids M.next μ μ1) F b o:=by
  rintro b o ⟨hf,ho⟩
  refine⟨fun h=>hf (.inl h),?_⟩
  rintro⟨i,hi⟩
  rcases hcase i with ⟨k,_,hpk⟩|⟨hni,_,hpi⟩
  ·exact ho (hown1 hpk hi)
  ·rw[hpi] at hi
   have hL:Lies μ i b:=by
    rcases hi with h|⟨e,g,h,_⟩
    ·exact .inl h
    ·exact .inr ⟨e,g,h⟩
   exact hf (.inr ⟨⟨i,hi⟩,hLi hL hni o⟩)
 have hle:ids.length≤M1.next:=by
  refine Nat.le_of_not_lt fun hlt'=>?_
  have hk:M1.next < ids.length:=hlt'
  have h0:pull ids μ M1.next≠none:=by
   rw[pull_at (List.getElem?_eq_getElem hk)]
   exact (hg.dom _).2 (hlt _ (List.getElem_mem hk))
  have h1:μ1 M1.next≠none:=by
   rcases hev.mu _ h0 with h|h|⟨_,_,_,_,_,h,_⟩<;>rw[h]
   ·exact h0
   ·simp
   ·simp
  have:=(hg1.dom _).1 h1
  omega
 have hgam:∀N,OutM ids M M1 N→Gam (push ids M.next μ μ1) F N w':=by
  rintro N ⟨hN,hNg⟩
  have hkey:∀{k i:Nat},(ids[k]? =some i∨ids.length≤k∧i=M.next+(k - ids.length))→push ids M.next μ μ1 i=μ1 k:=by
   rintro k i (hk|⟨hk,rfl⟩)
   ·exact hp1 hk
   ·exact hp3 k hk
  refine⟨?_,?_,?_,?_,?_,?_,?_⟩
  ·intro i
   rw[hN]
   rcases hcase i with ⟨k,hk,hpk⟩|⟨hni,hlt',hpi⟩
   ·rw[hpk,hg1.dom]
    rcases hk with hk|⟨hk,rfl⟩
    ·have h1:=(List.getElem?_eq_some_iff.1 hk).1
     have h2:=hlt i (List.mem_of_getElem? hk)
     exact⟨fun _=>by omega,fun _=>by omega⟩
    ·exact⟨fun _=>by omega,fun _=>by omega⟩
   ·rw[hpi,hg.dom]
    exact⟨fun _=>by omega,fun _=>hlt'⟩
  ·intro i l hi
   rcases hNg i _ hi with ⟨k,o1,hk,hM1,hO⟩|⟨hni,hM⟩
   ·cases o1 with
    |spare g=>exact hO.elim
    |raw _ _ _ _=>exact hO.elim
    |cells l1=>
     have hO:OutL ids M.next l1 l:=hO
     obtain⟨b,c,ty,h1,h2,h3,h4,h5⟩:=hg1.obj k l1 hM1
     refine⟨b,c,ty,(hkey hk).trans h1,h2,h3.trans hO.len,h4,?_⟩
     intro j y v hy hv
     have hj:j < l1.length:=by rw[hO.len];exact (List.getElem?_eq_some_iff.1 hy).1
     exact hO.get j _ y (List.getElem?_eq_getElem hj) hy μ1 _ F _ w' v hfree (fun k i h=>hp1 h) hp3 (h5 j _ v (List.getElem?_eq_getElem hj) hv)
   ·obtain⟨b,c,ty,h1,h2,h3,h4,h5⟩:=hg.obj i l hM
    have hlt':i < M.next:=(hg.dom i).1 (by rw[h1];simp)
    have hb:b < w.heap.size:=(Array.getElem?_eq_some_iff.1 h2).1
    exact⟨b,c,ty,(hp2 hni hlt').trans h1,(hev.same b hb (hLi (.inl h1) hni)).trans h2,h3,h4,fun j x v hx hv=>(h5 j x v hx hv).evo hev'⟩
  ·intro i g hi
   rcases hNg i _ hi with ⟨k,o1,hk,hM1,hO⟩|⟨hni,hM⟩
   ·cases o1 with
    |cells l1=>exact hO.elim
    |raw _ _ _ _=>exact hO.elim
    |spare g1=>
     have hO:g1=g:=hO
     subst hO
     obtain⟨p,h1,h2⟩:=hg1.spare k g1 hM1
     exact⟨p,(hkey hk).trans h1,h2⟩
   ·obtain⟨p,h1,h2⟩:=hg.spare i g hM
    have hlt':i < M.next:=(hg.dom i).1 (by rw[h1];simp)
    refine⟨p,(hp2 hni hlt').trans h1,fun b e hp=>?_⟩
    obtain⟨c,ty,fr,h3,h4,h5⟩:=h2 b e hp
    have hb:b < w.heap.size:=(Array.getElem?_eq_some_iff.1 h3).1
    exact⟨c,ty,fr,(hev.same b hb (hLi (.inr ⟨e,g,by rw[h1,hp]⟩) hni)).trans h3,h4,h5⟩
  ·intro i j b hi hj
   have hmix:∀{i j k},push ids M.next μ μ1 i=μ1 k→(j∉ids∧j < M.next∧push ids M.next μ μ1 j=μ j)→Lies (push ids M.next μ μ1) i b→Lies (push ids M.next μ μ1) j b→False:=by
    rintro i j k hpk ⟨hnj,_,hpj⟩ hi hj
    have hi1:Lies μ1 k b:=by unfold Lies at hi ⊢;rw[hpk] at hi;exact hi
    have hj1:Lies μ j b:=by unfold Lies at hj ⊢;rw[hpj] at hj;exact hj
    obtain⟨o,ho⟩:=lies_own hi1
    obtain⟨o',ho'⟩:=lies_own hj1
    have hb:=hg.fit.own b o' ho'
    exact hLi hj1 hnj o (hev.own b o hb ho)
   rcases hcase i with ⟨k,hk,hpk⟩|hci
   ·rcases hcase j with ⟨k',hk',hpk'⟩|hcj
    ·have hi1:Lies μ1 k b:=by unfold Lies at hi ⊢;rw[hpk] at hi;exact hi
     have hj1:Lies μ1 k' b:=by unfold Lies at hj ⊢;rw[hpk'] at hj;exact hj
     have:=hg1.inj k k' b hi1 hj1
     subst this
     rcases hk with hk|⟨hk,e⟩
     ·rcases hk' with hk'|⟨hk',e'⟩
      ·rw[hk] at hk';cases hk';rfl
      ·have:=(List.getElem?_eq_some_iff.1 hk).1;omega
     ·rcases hk' with hk'|⟨hk',e'⟩
      ·have:=(List.getElem?_eq_some_iff.1 hk').1;omega
      ·omega
    ·exact (hmix hpk hcj hi hj).elim
   ·rcases hcase j with ⟨k',hk',hpk'⟩|hcj
    ·exact (hmix hpk' hci hj hi).elim
    ·have hi1:Lies μ i b:=by unfold Lies at hi ⊢;rw[hci.2.2] at hi;exact hi
     have hj1:Lies μ j b:=by unfold Lies at hj ⊢;rw[hcj.2.2] at hj;exact hj
     exact hg.inj i j b hi1 hj1
  ·rintro b o ⟨i,hi⟩ hf
   rcases hcase i with ⟨k,hk,hpk⟩|⟨hni,_,hpi⟩
   ·exact hg1.frm b o (hown1 hpk hi) (.inl hf)
   ·rw[hpi] at hi
    exact hg.frm b o ⟨i,hi⟩ hf
  ·refine⟨?_,fun b o hf=>Nat.lt_of_lt_of_le (hg.fit.frm b o hf) hev.size⟩
   rintro b o ⟨i,hi⟩
   rcases hcase i with ⟨k,hk,hpk⟩|⟨hni,_,hpi⟩
   ·exact hg1.fit.own b o (hown1 hpk hi)
   ·rw[hpi] at hi
    exact Nat.lt_of_lt_of_le (hg.fit.own b o ⟨i,hi⟩) hev.size
  ·intro i gg o vs t hi
   rcases hNg i _ hi with ⟨k,o1,hk,hM1,hO⟩|⟨hni,hM⟩
   ·cases o1 with
    |cells l=>exact hO.elim
    |spare g=>exact hO.elim
    |raw g0 o0 vs0 t0=>
     obtain⟨rfl,rfl,rfl,rfl,rfl⟩:g0=gg∧o0=o∧vs0=vs∧t0=[]∧t=[]:=hO
     obtain⟨b,h1,h2,h3⟩:=hg1.raw k _ _ _ _ hM1
     exact⟨b,h1.to (hkey hk),h2,fun j=>.top _⟩
   ·obtain⟨b,h1,h2,h3⟩:=hg.raw i gg o vs t hM
    have hlt':i < M.next:=(hg.dom i).1 h1.ne
    have hb:b < w.heap.size:=(Array.getElem?_eq_some_iff.1 h2).1
    exact⟨b,h1.congr (hp2 hni hlt'),(hev.same b hb (hLi h1.lies hni)).trans h2,fun i=>(h3 i).evo hev'⟩
 cases e with
 |returned v=>
  obtain⟨x,h4,h5⟩:=hend
  obtain⟨e',N,hE,hN,hr⟩:=hR _ _ h5
  cases e' with
  |pan y=>exact hE.elim
  |ret y=>exact⟨_,N,hev',hgam N hN,y,hE μ1 _ F _ w' v hfree (fun k i h=>hp1 h) hp3 h4,hr⟩
 |panicked ch=>
  obtain⟨x,v,h4,h5,h6⟩:=hend
  obtain⟨e',N,hE,hN,hr⟩:=hR _ _ h6
  cases e' with
  |ret y=>exact hE.elim
  |pan y=>exact⟨_,N,hev',hgam N hN,y,v,h4,hE μ1 _ F _ w' v hfree (fun k i h=>hp1 h) hp3 h5,hr⟩
 |outgrown=>exact hend.elim
theorem ACalls.frame1 {P:Program} {g:FuncId} {args args1 c:List AV} {M:Mem} {R:AEnd→Mem→Prop} {R1:AEnd→List AV→Prop} (id:Nat) (hM:M.get id=some (.cells c)) (hlt:id < M.next) (hc:∀x,x∈c→Closed x)
  (h:ACalls P g args1 ⟨1,[(0,.cells c)]⟩ fun e N=>N.next=1∧∃d,N.get 0=some (.cells d)∧R1 e d) (hargs:InL [id] args args1)
  (hR:∀e d,R1 e d→(match e with|.ret x=>Closed x|.pan x=>Closed x)∧(∀x,x∈d→Closed x)∧R e (M.set id (.cells d))):ACalls P g args M R:=by
 refine ACalls.frame [id] (by simp) (by simpa using hlt) rfl ?_ h hargs ?_
 ·intro k o1 hk
  have hk':(if k=0 then some (AObj.cells c) else none)=some o1:=hk
  split at hk'
  ·rename_i h0
   subst h0
   cases hk'
   exact⟨id,_,rfl,hM,InL.closed hc⟩
  ·cases hk'
 ·rintro e M1 ⟨h1,d,h2,h3⟩
  obtain⟨h4,h5,h6⟩:=hR e d h3
  refine⟨e,_,?_,⟨?_,?_⟩,h6⟩
  ·cases e<;>exact OutV.closed h4
  ·show M.next=_
   rw[h1]
   rfl
  ·intro i o hi
   rw[Mem.get_set] at hi
   split at hi
   ·rename_i h0
    cases hi
    exact .inl ⟨0,_,.inl (by rw[h0];rfl),h2,OutL.closed h5⟩
   ·rename_i h0
    exact .inr ⟨by simpa using h0,hi⟩
def SubL:List AV→List AV→Prop
 |[],[]=>True
 |x::l,y::m=>Sub x y∧SubL l m
 |_,_=>False
theorem SubL.len:∀{l m:List AV},SubL l m→l.length=m.length
 |[],[],_=>rfl
 |_::_,_::_,h=>congrArg (·+1) (SubL.len h.2)
theorem SubL.get:∀{l m:List AV},SubL l m→∀(i:Nat) (x y:AV),l[i]? =some x→m[i]? =some y→Sub x y
 |[],[],_,i,_,_,hx,_=>by simp at hx
 |a::l,b::m,h,0,x,y,hx,hy=>by cases hx;cases hy;exact h.1
 |a::l,b::m,h,i+1,x,y,hx,hy=>SubL.get h.2 i x y hx hy
theorem APure.sub {P:Program} {g:FuncId} {args args':List AV} {r:AV} (h:APure P g args' r) (hs:SubL args args'):APure P g args r:=fun M=>(h M).sub hs.len hs.get
end
end Go.Ab
namespace Go.Ab
open Go.RowKit
theorem gam_pushraw {μ:Mu} {F:Frm} {M:Mem} {w w':World} (h:Gam μ F M w) (hb:Below w.heap.size w w') {o:Obj} {vs:Array Value} {t:List (Nat×AV)} {b:Nat} (hnew:w.heap.size≤b)
  (hc:w'.heap[b]? =some o) (hr:∀i,Rep μ F w ((lookup t i).getD .top) (vs.getD i undef)):
  Evo w μ w' (μ.put M.next (.at b))∧Gam (μ.put M.next (.at b)) F (M.push (.raw none o vs t)) w':=by
 have hn:=gam_next h
 have hown:∀k o,Own (μ.put M.next (.at b)) k o→k=b∨Own μ k o:=by
  rintro k o ⟨id,h1|⟨e,g,h1,he⟩⟩
  ·unfold Mu.put at h1
   split at h1
   ·cases h1;exact .inl rfl
   ·exact .inr ⟨id,.inl h1⟩
  ·unfold Mu.put at h1
   split at h1
   ·cases h1
   ·exact .inr ⟨id,.inr ⟨e,g,h1,he⟩⟩
 have hev:Evo w μ w' (μ.put M.next (.at b)):=Evo.push hb hn fun k o ho hk=>by
  rcases hown k o ho with rfl|ho
  ·omega
  ·exact ho
 refine⟨hev,?_,?_,?_,?_,?_,?_,?_⟩
 ·intro id
  have:=h.dom id
  unfold Mu.put Mem.push
  simp only
  split
  ·rename_i e;subst e;simp
  ·rename_i e
   rw[this]
   omega
 ·intro id l' hl
  rw[Mem.get_push] at hl
  split at hl
  ·cases hl
  ·rename_i e
   obtain⟨b',c',ty',h1,h2,h3,h4,h5⟩:=h.obj id l' hl
   have hlt:b' < w.heap.size:=(Array.getElem?_eq_some_iff.1 h2).1
   exact⟨b',c',ty',by simp[Mu.put,e,h1],(hb.block b' hlt).trans h2,h3,h4,fun i x v hx hv=>(h5 i x v hx hv).evo hev⟩
 ·intro id g hl
  rw[Mem.get_push] at hl
  split at hl
  ·cases hl
  ·rename_i e
   obtain⟨p,h1,h2⟩:=h.spare id g hl
   refine⟨p,by simp[Mu.put,e,h1],fun b' e' hp=>?_⟩
   obtain⟨c',ty',fr,h3,h4,h5⟩:=h2 b' e' hp
   have hlt:b' < w.heap.size:=(Array.getElem?_eq_some_iff.1 h3).1
   exact⟨c',ty',fr,(hb.block b' hlt).trans h3,h4,h5⟩
 ·have lie:∀i k,Lies (μ.put M.next (.at b)) i k→(i=M.next∧k=b)∨Lies μ i k:=by
   rintro i k (h1|⟨e,g,h1⟩)
   ·unfold Mu.put at h1
    split at h1
    ·cases h1;exact .inl ⟨by assumption,rfl⟩
    ·exact .inr (.inl h1)
   ·unfold Mu.put at h1
    split at h1
    ·cases h1
    ·exact .inr (.inr ⟨e,g,h1⟩)
  have old:∀i k,Lies μ i k→k < w.heap.size:=by
   rintro i k (h1|⟨e,g,h1⟩)
   ·exact h.fit.own k 0 ⟨i,.inl h1⟩
   ·exact h.fit.own k e ⟨i,.inr ⟨e,g,h1,Nat.le_refl _⟩⟩
  intro i j k hi hj
  rcases lie i k hi with ⟨h1,h2⟩|h1<;>rcases lie j k hj with ⟨h3,h4⟩|h3
  ·exact h1.trans h3.symm
  ·have:=old j k h3;omega
  ·have:=old i k h1;omega
  ·exact h.inj i j k h1 h3
 ·intro k o ho hF
  rcases hown k o ho with rfl|ho
  ·have:=h.fit.frm k o hF;omega
  ·exact h.frm k o ho hF
 ·refine⟨fun k o ho=>?_,fun k o hF=>Nat.lt_of_lt_of_le (h.fit.frm k o hF) hb.size⟩
  rcases hown k o ho with rfl|ho
  ·exact (Array.getElem?_eq_some_iff.1 hc).1
  ·exact Nat.lt_of_lt_of_le (h.fit.own k o ho) hb.size
 ·intro id gg o' vs' t' hl
  rw[Mem.get_push] at hl
  split at hl
  ·rename_i e
   cases hl
   exact⟨b,by simp[RawAt,Mu.put,e],hc,fun i=>(hr i).evo hev⟩
  ·rename_i e
   obtain⟨b',h1,h2,h3⟩:=h.raw id gg o' vs' t' hl
   have hlt:b' < w.heap.size:=(Array.getElem?_eq_some_iff.1 h2).1
   exact⟨b',h1.congr (by simp[Mu.put,e]),(hb.block b' hlt).trans h2,fun i=>(h3 i).evo hev⟩
theorem wrote_put (w:World) (b:Nat) (o:Obj):Wrote w b (w.putObj b o):=⟨rfl,rfl,rfl,by simp,fun k hk=>World.putObj_heap_other hk⟩
theorem gam_turn {μ:Mu} {F:Frm} {M:Mem} {w:World} (h:Gam μ F M w) {id b:Nat} {o:Obj} {vs:Array Value} {t:List (Nat×AV)} (hM:M.get id=some (.raw none o vs t)) (hid:μ id=some (.at b)) (o':Obj) (hno:∀c ty fr,o≠.cells c ty fr):
  w.heap[b]? =some o∧Evo w μ (w.putObj b o') μ∧Gam μ F (M.set id (.raw none o' vs t)) (w.putObj b o'):=by
 obtain⟨b0,k1,k2,k3⟩:=h.raw id none o vs t hM
 have k1:μ id=some (.at b0):=k1
 rw[hid] at k1
 cases k1
 have hw:=wrote_put w b o'
 have hlt:b < w.heap.size:=(Array.getElem?_eq_some_iff.1 k2).1
 have hev:Evo w μ (w.putObj b o') μ:=by
  refine⟨hw.os,hw.tape,hw.output,Nat.le_of_eq hw.size.symm,fun _ _=>.inl rfl,?_,?_,fun _ _ _ h=>h⟩
  ·intro k hk hn
   refine hw.other k ?_
   rintro rfl
   exact hn 0 ⟨id,.inl hid⟩
  ·intro k e c' ty' fr hk hn hc'
   by_cases hkb:k=b
   ·subst hkb
    rw[k2] at hc'
    cases hc'
    exact absurd rfl (hno _ _ _)
   ·exact⟨c',fr,(hw.other k hkb).trans hc',rfl,fun _ _=>rfl⟩
 refine⟨k2,hev,h.dom,?_,?_,h.inj,h.frm,⟨fun k o ho=>by rw[hw.size];exact h.fit.own k o ho,fun k o ho=>by rw[hw.size];exact h.fit.frm k o ho⟩,?_⟩
 ·intro i l' hl
  rw[Mem.get_set] at hl
  split at hl
  ·cases hl
  ·rename_i e
   obtain⟨b',c',ty',h1,h2,h3,h4,h5⟩:=h.obj i l' hl
   have hne:b'≠b:=by
    rintro rfl
    exact e (h.inj i id b' (.inl h1) (.inl hid))
   exact⟨b',c',ty',h1,(hw.other b' hne).trans h2,h3,h4,fun i x v hx hv=>(h5 i x v hx hv).evo hev⟩
 ·intro i g hl
  rw[Mem.get_set] at hl
  split at hl
  ·cases hl
  ·rename_i e
   obtain⟨p,h1,h2⟩:=h.spare i g hl
   refine⟨p,h1,fun b' e' hp=>?_⟩
   obtain⟨c',ty',fr,h3,h4,h5⟩:=h2 b' e' hp
   have hne:b'≠b:=by
    rintro rfl
    subst hp
    exact e (h.inj i id b' (.inr ⟨e',g,h1⟩) (.inl hid))
   exact⟨c',ty',fr,(hw.other b' hne).trans h3,h4,h5⟩
 ·intro i gg o2 vs2 t2 hl
  rw[Mem.get_set] at hl
  split at hl
  ·rename_i e
   cases hl
   subst e
   exact⟨b,hid,World.putObj_heap_same hlt,fun i=>(k3 i).evo hev⟩
  ·rename_i e
   obtain⟨b',h1,h2,h3⟩:=h.raw i gg o2 vs2 t2 hl
   have hne:b'≠b:=by
    rintro rfl
    exact e (h.inj i id b' h1.lies (.inl hid))
   exact⟨b',h1,(hw.other b' hne).trans h2,fun i=>(h3 i).evo hev⟩
def AYields (P:Program) (y:Nat) (args:List AV) (M:Mem) (R:AEnd→Mem→Prop):Prop:=
 ∀(r:Option Nat) (μ:Mu) (F:Frm) (w:World) (vs:Array Value) (b:Nat),Gam μ F M w→μ y=some (.at b)→RepL μ F w args vs→
  ∃fn tmps assign body,(Instr.yield b vs).run P w=.ok (.round b fn tmps assign body) w∧RoundIn (fn0 r) 8 P b fn tmps assign body w (callPost F μ w R)
theorem AYields.mono {P:Program} {y:Nat} {args:List AV} {M:Mem} {R R':AEnd→Mem→Prop} (h:AYields P y args M R) (hr:∀e M,R e M→R' e M):AYields P y args M R':=by
 intro r μ F w vs b hg hb hv
 obtain⟨fn,tmps,assign,body,h1,h2⟩:=h r μ F w vs b hg hb hv
 refine⟨fn,tmps,assign,body,h1,h2.mono ?_⟩
 rintro e w' ⟨μ',M',k1,k2,k3⟩
 refine⟨μ',M',k1,k2,?_⟩
 cases e with
 |returned v=>obtain⟨x,h4,h5⟩:=k3;exact⟨x,h4,hr _ _ h5⟩
 |panicked ch=>obtain⟨x,v,h4,h5,h6⟩:=k3;exact⟨x,v,h4,h5,hr _ _ h6⟩
 |outgrown=>exact k3
theorem AYields.le {P:Program} {y:Nat} {args:List AV} {M N:Mem} {R:AEnd→Mem→Prop} (hM:N.le M) (h:AYields P y args N R):AYields P y args M R:=
 fun r μ F w vs b hg hb hv=>h r μ F w vs b (hg.le hM) hb hv
theorem upon_round {r:Option Nat} {P:Program} {o:Oper} {a:Act} {w w':World} {next:Act→World→Prop} {Q:Exit→Act→World→Prop} {l:Nat} {f:FuncId} {tmps:Array Value} {assign body:Code}
  (h:(execOp a.eval o).run P w=.ok (.round l f tmps assign body) w')
  (hk:RoundIn (fn0 r) 8 P l f tmps assign body w' fun
   |.returned v,w''=>next (a.put o.dst v) w''
   |.panicked chain,w''=>Q (.panic chain) a w''
   |.outgrown,_=>LetsOut Q):o.wpIn (fn0 r) 9 P a w next Q:=by
 refine⟨fun _ _=>trivial,?_⟩
 have:=semAt_val (r:=r) h (by intro d e;cases e)
 show o.uponIn (fn0 r) 9 P a next Q ((o.semAt r a.eval).run P w)
 rw[this]
 exact⟨fun h=>(by cases h),hk⟩
theorem opI_yield {P:Program} {o:Oper} {x:Operand} {ags:Array Operand} {ts:Array TypeId} (ho:o.op=.call {callee:=.value x,args:=ags,argTypes:=ts}) {ρ:Operand→AV} {M:Mem} {y:Nat} {ob:Obj} {vs:Array Value} {t:List (Nat×AV)}
  (hx:ρ x=.yld y) (hM:M.get y=some (.raw none ob vs t)) {R:AEnd→Mem→Prop} (hc:AYields P y (ags.toList.map ρ) M R) {K Kp:AV→Mem→Prop} (h1:∀u M',R (.ret u) M'→K u M') (h2:∀u M',R (.pan u) M'→Kp u M'):OpI P o ρ M K Kp:=by
 intro r μ F w a hg hr next Q' g1 g2
 have hv:=hr x (by simp[ho,Op.operands,Call.operands])
 rw[hx] at hv
 obtain⟨b,hb,_,_⟩:=hg.raw y none ob vs t hM
 have he:a.eval x=.func (.yield b) #[] #[]:=by
  generalize a.eval x=u at hv
  cases hv with
  |yld _ _ _ _ h3=>exact h3 b hb
 have hargs:RepL μ F w (ags.toList.map ρ) (ags.map a.eval):=RepL.map fun y hy=>hr y (by simp[ho,Op.operands,Call.operands,hy])
 obtain⟨fn,tmps,assign,body,k1,k2⟩:=hc r μ F w _ b hg hb hargs
 have hrun:(execOp a.eval o).run P w=.ok (.round b fn tmps assign body) w:=by
  simp[execOp,ho,resolve,he,Deferred.ofValue,invoke,k1]
 refine upon_round hrun (k2.mono ?_)
 rintro e w' ⟨μ',M',e1,e2,e3⟩
 cases e with
 |returned v=>
  obtain⟨u,e4,e5⟩:=e3
  exact g1 μ' M' w' v u e1 e2 e4 (h1 u M' e5)
 |panicked ch=>
  obtain⟨u,v,rfl,e4,e5⟩:=e3
  exact g2 μ' M' w' v u e1 e2 e4 (h2 u M' e5)
 |outgrown=>exact e3.elim
section
variable {P:Program} {ops:Array Oper} {cls:Nat→Cls} {Q:AX→AF→Mem→Prop} {ds:List ADef} {ls:List Nat} {i:Nat} {t:List (Nat×AV)} {M:Mem}
def stepY (ops:Array Oper) (cls:Nat→Cls) (ds:List ADef) (i:Nat) (t:List (Nat×AV)):Option (Option Nat×Nat×List AV):=
 match ops[i]? with
 |some o=>(match wantedA ops ⟨t,ds⟩ o,cls i,o.op with
  |some true,.Y,.call {callee:=.value y,args:=ags,argTypes:=_}=>(match AF.ev ⟨t,ds⟩ y with
   |.yld id=>some (o.dst,id,ags.toList.map (AF.ev ⟨t,ds⟩))
   |_=>none)
  |_,_,_=>none)
 |none=>none
theorem DW_Y {d:Nat} {y:Nat} {args:List AV} {R:AEnd→Mem→Prop} (hs:stepY ops cls ds i t=some (some d,y,args)) {ob:Obj} {vs:Array Value} {t0:List (Nat×AV)} (hM:M.get y=some (.raw none ob vs t0)) (hcall:AYields P y args M R)
  (h1:∀u M',R (.ret u) M'→DW P ops cls Q ds ls ((d,u)::t) M') (h2:∀u M',R (.pan u) M'→Q (.panic u) ⟨keepT ds,ds⟩ M'):DW P ops cls Q ds (i::ls) t M:=by
 unfold stepY at hs
 split at hs
 ·rename_i o hi
  split at hs
  ·rename_i yy ags ts hw hcl ho
   split at hs
   ·rename_i id hx
    simp only[Option.some.injEq,Prod.mk.injEq] at hs
    obtain⟨hd,rfl,rfl⟩:=hs
    refine DW_run hi hw ?_
    rw[hcl]
    refine opI_yield ho hx hM hcall ?_ h2
    intro u M' hu
    have:=h1 u M' hu
    simpa [AF.put,hd] using this
   ·cases hs
  ·cases hs
 ·cases hs
end
def loopR (fn:FuncId) (tmps:Array Value) (ps:Array Tmp) (assign body:Code) (D:Nat) (st:LoopState) (pe:Option Code):Loop:=
 {state:=st,pending:=pe,fn,tmps,params:=ps,assign,body,defers:=D}
def parT:List Nat→List AV→List (Nat×AV)→List (Nat×AV)
 |p::ps,a::avs,t=>parT ps avs ((p,a)::t)
 |_,_,t=>t
theorem par_rep {μ:Mu} {F:Frm} {w:World}:∀(ps:List Nat) (avs:List AV) (vs:List Value) (t:List (Nat×AV)) (tm:Array Value),ps.length=avs.length→vs.length=avs.length→(∀p,p∈ps→p < tm.size)→
  (∀(i:Nat) (x:AV) (v:Value),avs[i]? =some x→vs[i]? =some v→Rep μ F w x v)→(∀i,Rep μ F w ((lookup t i).getD .top) (tm.getD i undef))→
  ∀i,Rep μ F w ((lookup (parT ps avs t) i).getD .top) (((ps.zip vs).foldl (fun (tm:Array Value) (p:Nat×Value)=>tm.setIfInBounds p.1 p.2) tm).getD i undef)
 |[],[],[],t,tm,_,_,_,_,h=>h
 |p::ps,a::avs,v::vs,t,tm,h1,h2,h3,h4,h=>by
  simp only[List.zip_cons_cons,List.foldl_cons,parT]
  refine par_rep ps avs vs _ _ (by simpa using h1) (by simpa using h2) (fun q hq=>by rw[Array.size_setIfInBounds];exact h3 q (by simp[hq])) (fun i x u hx hu=>h4 (i+1) x u (by simpa using hx) (by simpa using hu)) ?_
  intro i
  simp only[lookup]
  by_cases e:i=p
  ·subst e
   have:=h3 i (by simp)
   simp only[if_true,Option.getD_some]
   rw[Array.getD_eq_getD_getElem?,Array.getElem?_setIfInBounds]
   simp only[this,if_true,Option.getD_some]
   exact h4 0 a v rfl rfl
  ·rw[if_neg e,Array.getD_eq_getD_getElem?,Array.getElem?_setIfInBounds_ne (Ne.symm e),←Array.getD_eq_getD_getElem?]
   exact h i
 |[],_::_,_,_,_,h1,_,_,_,_=>by simp at h1
 |_::_,[],_,_,_,h1,_,_,_,_=>by simp at h1
 |[],[],_::_,_,_,_,h2,_,_,_=>by simp at h2
 |_::_,_::_,[],_,_,_,h2,_,_,_=>by simp at h2
theorem par_size:∀(l:List (Nat×Value)) (tm:Array Value),(l.foldl (fun (tm:Array Value) (p:Nat×Value)=>tm.setIfInBounds p.1 p.2) tm).size=tm.size
 |[],_=>rfl
 |_::l,tm=>by rw[List.foldl_cons,par_size l];simp
def roundQ (y:Nat) (fn:FuncId) (tmps:Array Value) (ps:Array Tmp) (assign body:Code) (D:Nat) (t:List (Nat×AV)) (R:AEnd→Mem→Prop):AX→AF→Mem→Prop
 |.normal,_,M=>M.get y=some (.raw none (.loop (loopR fn tmps ps assign body D .busy none)) tmps t)∧R (.ret (.bool true)) (M.set y (.raw none (.loop (loopR fn tmps ps assign body D .ready none)) tmps t))
 |.ret,_,M=>M.get y=some (.raw none (.loop (loopR fn tmps ps assign body D .busy none)) tmps t)∧R (.ret (.bool false)) (M.set y (.raw none (.loop (loopR fn tmps ps assign body D .done (some .ret))) tmps t))
 |.exit id,_,M=>M.get y=some (.raw none (.loop (loopR fn tmps ps assign body D .busy none)) tmps t)∧R (.ret (.bool false)) (M.set y (.raw none (.loop (loopR fn tmps ps assign body D .done (some (.exit id)))) tmps t))
 |.panic _,_,_=>False
theorem ayields_of {P:Program} {y:Nat} {args:List AV} {M:Mem} {R:AEnd→Mem→Prop} {fn:FuncId} {tmps:Array Value} {ps:Array Tmp} {assign body:Code} {D n:Nat} {t:List (Nat×AV)}
  (hM:M.get y=some (.raw none (.loop (loopR fn tmps ps assign body D .ready none)) tmps t)) (hn:tmps.size=n) (hp:ps.toList.length=args.length) (hps:(ps.toList.all fun p=>decide (p < n))=true)
  (h:∀l,W (some l) P n assign (thenX (fun f1 M1=>M1.get y=some (.raw none (.loop (loopR fn tmps ps assign body D .ready none)) tmps t)∧W (some l) P n body (roundQ y fn tmps ps assign body D t R) f1 (M1.set y (.raw none (.loop (loopR fn tmps ps assign body D .busy none)) tmps t))) (fun _ _ _=>False)) ⟨parT ps.toList args t,[]⟩ M):
  AYields P y args M R:=by
 intro r μ F w vs b hg hb hv
 obtain⟨hl,_,_⟩:=gam_turn hg hM hb (.loop (loopR fn tmps ps assign body D .busy none)) (by intro c ty fr e;cases e)
 obtain⟨b0,k1,_,k3⟩:=hg.raw y _ _ _ _ hM
 have hsz:vs.size=ps.size:=by rw[hv.1,←hp];simp
 refine⟨fn,_,assign,body,run_yield hl hsz,?_⟩
 refine roundIn_of_wpIn (F:=fn0 r) (n:=8) trivial ?_
 suffices key:∀tm:Array Value,tm=(ps.toList.zip vs.toList).foldl (fun (tm:Array Value) (p:Nat×Value)=>tm.setIfInBounds p.1 p.2) tmps→assign.wpIn (fn0 (some b)) 9 P (Exit.then (fun a₁ w₁=>∃w₂,(Instr.beginRound b).run P w₁=.ok () w₂∧body.wpIn (fn0 (some b)) 8 P (roundPost P b (callPost F μ w R)) a₁ w₂) (fun _ _ _=>False)) {tmps:=tm,defers:=[]} w by
  refine wpIn_n (r:=some b) (n:=9) (key _ ?_)
  rw[←Array.toList_zip,Array.foldl_toList]
  rfl
 intro tm htm
 have hfr:RepF μ F w n ⟨parT ps.toList args t,[]⟩ {tmps:=tm,defers:=[]}:=by
  subst htm
  refine⟨by rw[par_size,hn],?_,trivial,fun p hp=>by cases hp⟩
  intro i
  refine par_rep _ _ _ _ _ hp (by rw[Array.length_toList,hv.1]) (fun p hp=>?_) (fun i x v hx hu=>hv.2 i x v hx (by simpa using hu)) k3 i
  rw[hn]
  exact of_decide_eq_true (List.all_eq_true.1 hps p hp)
 refine wpIn_mono ((h b).run μ F w _ hg hfr) ?_
 rintro e a' w' ⟨μ',f',M',x,h1,h2,h3,h4,h5⟩
 cases e with
 |normal=>
  cases x<;>simp only[XRel] at h4
  obtain⟨g1,g2⟩:=h5
  obtain⟨b1,m1,m2,_⟩:=h2.raw y _ _ _ _ g1
  have hbb:b1=b:=by
   rcases h1.mu y (by rw[hb];simp) with h|h|⟨_,_,_,_,h,_⟩
   ·rw[m1,hb] at h;cases h;rfl
   ·rw[m1] at h;cases h
   ·rw[hb] at h;cases h
  subst hbb
  obtain⟨_,e2,e3⟩:=gam_turn h2 g1 m1 (.loop (loopR fn tmps ps assign body D .busy none)) (by intro c ty fr e;cases e)
  refine⟨w'.putObj b1 (.loop (loopR fn tmps ps assign body D .busy none)),run_beginRound m2 rfl,?_⟩
  refine wpIn_n (r:=some b1) (n:=9) (wpIn_mono (g2.run μ' F _ a' e3 (h3.evo e2)) ?_)
  have fin:∀(jump:Option Code) (M2:Mem) (μ2:Mu) (w2:World),Evo (w'.putObj b1 (.loop (loopR fn tmps ps assign body D .busy none))) μ' w2 μ2→Gam μ2 F M2 w2→M2.get y=some (.raw none (.loop (loopR fn tmps ps assign body D .busy none)) tmps t)→
    R (.ret (.bool jump.isNone)) (M2.set y (.raw none (.loop (loopR fn tmps ps assign body D (if jump.isNone then .ready else .done) jump)) tmps t))→
    ∃v w3,(Instr.endRound b1 jump).run P w2=.ok v w3∧callPost F μ w R (.returned v) w3:=by
   intro jump M2 μ2 w2 q1 q2 q3 q4
   obtain⟨b2,n1,n2,_⟩:=q2.raw y _ _ _ _ q3
   have hbb:b2=b1:=by
    rcases q1.mu y (by rw[m1];simp) with h|h|⟨_,_,_,_,h,_⟩
    ·rw[n1,m1] at h;cases h;rfl
    ·rw[n1] at h;cases h
    ·rw[m1] at h;cases h
   subst hbb
   obtain⟨_,e5,e6⟩:=gam_turn q2 q3 n1 (.loop (loopR fn tmps ps assign body D (if jump.isNone then .ready else .done) jump)) (by intro c ty fr e;cases e)
   exact⟨_,_,run_endRound jump n2,μ2,_,((h1.trans e2).trans q1).trans e5,e6,_,.bool _,q4⟩
  rintro e a2 w2 ⟨μ2,f2,M2,x2,q1,q2,q3,q4,q5⟩
  cases e with
  |normal=>cases x2<;>simp only[XRel] at q4;exact fin none M2 μ2 w2 q1 q2 q5.1 q5.2
  |exit id=>cases x2<;>simp only[XRel] at q4;subst q4;exact fin (some (.exit id)) M2 μ2 w2 q1 q2 q5.1 q5.2
  |goto l=>cases x2<;>exact q4.elim
  |ret=>cases x2<;>simp only[XRel] at q4;exact fin (some .ret) M2 μ2 w2 q1 q2 q5.1 q5.2
  |panic ch=>cases x2<;>first|exact q4.elim|exact q5.elim
  |outgrown=>cases x2<;>exact q4.elim
 |exit id=>cases x<;>first|exact h4.elim|exact h5.elim
 |goto l=>cases x<;>exact h4.elim
 |ret=>cases x<;>first|exact h4.elim|exact h5.elim
 |panic ch=>cases x<;>first|exact h4.elim|exact h5.elim
 |outgrown=>cases x<;>exact h4.elim
def markD (y:Nat):ADef:={f:=.func 0,cap:=[],args:=[],mark:=some y}
def deferO:AObj:=.raw none (.deferred (some [])) #[] []
def rangeQ (Q:AX→AF→Mem→Prop) (fn:FuncId) (tmps:Array Value) (ps:Array Tmp) (assign body:Code) (D y0:Nat) (f:AF):AEnd→Mem→Prop
 |.ret _,M=>∃st pe N,(st≠.busy)∧M.get (y0+1)=some (.raw none (.loop (loopR fn tmps ps assign body D st pe)) tmps f.t)∧N.le M∧N.get (y0+1)=none∧
  (match pe with
   |none=>Q .normal ⟨f.t,markD y0::f.d⟩ N
   |some .ret=>Q .ret ⟨f.t,markD y0::f.d⟩ N
   |some (.exit id)=>Q (.exit id) ⟨f.t,markD y0::f.d⟩ N
   |some _=>False)
 |.pan v,M=>Q (.panic v) ⟨f.t,markD y0::f.d⟩ M
theorem gam_unraw {μ:Mu} {F:Frm} {M N:Mem} {w:World} {id:Nat} {o:AObj} (h:Gam μ F (M.set id o) w) (hN:N.le M) (hn:N.get id=none):Gam μ F N w:=by
 refine h.le ⟨hN.1,fun i p hi=>?_⟩
 rw[Mem.get_set]
 split
 ·rename_i e
  subst e
  rw[hn] at hi
  cases hi
 ·exact hN.2 i p hi
theorem W_range {P:Program} {n:Nat} {g:Operand} {ps:Array Tmp} {assign body:Code} {Q:AX→AF→Mem→Prop} {f:AF} {M:Mem} {gf:FuncId} {lb:List AV} (hg:f.ev g=.fn (.func gf) [] lb)
  (h:∀(fn:FuncId) (tmps:Array Value) (D:Nat),tmps.size=n→ACalls P gf (.yld (M.next+1)::lb) ⟨M.next+2,(M.next+1,.raw none (.loop (loopR fn tmps ps assign body D .ready none)) tmps f.t)::(M.next,deferO)::M.objs⟩ (rangeQ Q fn tmps ps assign body D M.next f)):
  W none P n (.rangeFunc g ps assign body) Q f M:=by
 refine⟨fun μ F w a hG hr=>?_⟩
 have hv:=hr.ev g
 rw[hg] at hv
 obtain⟨c1,c2,he,hs1,hs2,h1,h2⟩:=hv.fn_inv
 have hc1:c1=#[]:=Array.eq_empty_of_size_eq_zero hs1
 subst hc1
 refine wpIn_rangeFunc ?_
 intro fn _
 have hcall:=h fn a.tmps w.heap.size hr.size
 obtain⟨w1,hw1⟩:∃w1,w.alloc (.deferred (some []))=w1:=⟨_,rfl⟩
 obtain⟨w2,hw2⟩:∃w2,w1.alloc (.loop (loopR fn a.tmps ps assign body w.heap.size .ready none))=w2:=⟨_,rfl⟩
 have hs1:w1.heap.size=w.heap.size+1:=by rw[←hw1];simp
 have hb1:Below w.heap.size w w1:=by rw[←hw1];exact (Below.refl _ w).alloc (Nat.le_refl _) _
 have hb2:Below w1.heap.size w1 w2:=by rw[←hw2];exact (Below.refl _ w1).alloc (Nat.le_refl _) _
 obtain⟨e1,g1⟩:=gam_pushraw hG hb1 (o:=.deferred (some [])) (vs:=#[]) (t:=[]) (Nat.le_refl _) (by rw[←hw1];exact World.alloc_heap_new w _) (fun i=>.top _)
 obtain⟨e2,g2⟩:=gam_pushraw g1 hb2 (o:=.loop (loopR fn a.tmps ps assign body w.heap.size .ready none)) (vs:=a.tmps) (t:=f.t) (Nat.le_refl _) (by rw[←hw2];exact World.alloc_heap_new w1 _) (fun i=>(hr.tmps i).evo e1)
 have hev:=e1.trans e2
 generalize hμ:(μ.put M.next (.at w.heap.size)).put (M.push (.raw none (.deferred (some [])) #[] [])).next (.at w1.heap.size)=μ2 at e2 g2 hev
 have hy:μ2 (M.next+1)=some (.at (w.heap.size+1)):=by rw[←hμ,←hs1];simp[Mu.put,Mem.push]
 have hD:μ2 M.next=some (.at w.heap.size):=by rw[←hμ];simp[Mu.put,Mem.push]
 have hvs:RepL μ2 F w2 (.yld (M.next+1)::lb) (#[.func (.yield (w.heap.size+1)) #[] #[]]++c2):=
  (RepL.cons (.yld _ _ rfl (by rw[hy];simp) (fun b hb=>by rw[hy] at hb;cases hb;rfl))).app (RepL.evo hev ⟨hs2,h2⟩)
 refine⟨w.heap.size+1,[{target:=.collected w.heap.size,args:=#[]}],w2,{target:=.fn (.func gf) c2,args:=#[.func (.yield (w.heap.size+1)) #[] #[]]},w2,gf,
  #[.func (.yield (w.heap.size+1)) #[] #[]]++c2,w2,?_,?_,fun _ _=>trivial,?_,fun e=>(by cases e),?_⟩
 ·rw[←hw2,←hw1];exact run_enterLoop_outer _ _ _ _ _
 ·simp only[resolve,he]
  simp[go_sem]
 ·simp[invoke,go_sem,run_enter hcall.1]
 refine (callsIn0 (hcall.2 μ2 F w2 _ g2 hvs)).mono ?_
 rintro e w3 ⟨μ3,M3,k1,k2,k3⟩
 have hev3:=hev.trans k1
 have hfr:∀(μ4:Mu) (w4:World),Evo w2 μ2 w4 μ4→RepF μ4 F w4 n ⟨f.t,markD M.next::f.d⟩ {a with defers:=[{target:=.collected w.heap.size,args:=#[]}]++a.defers}:=by
  intro μ4 w4 q
  have hr4:=(hr.evo (hev.trans q))
  refine⟨hr4.size,hr4.tmps,?_,hr4.kept⟩
  have hd0:DefRep μ2 F w2 (markD M.next::f.d) ({target:=.collected w.heap.size,args:=#[]}::a.defers):=by
   show DefRep1 _ _ _ _ _∧DefRep _ _ _ _ _
   exact⟨⟨fun h=>(by cases h),RepL.nil,fun y hy=>by cases hy;exact⟨by rw[hD];simp,fun b hb=>by rw[hD] at hb;cases hb;rfl⟩⟩,(hr.evo hev).defs⟩
  exact hd0.evo q
 cases e with
 |returned v=>
  obtain⟨u,_,st,pe,N,hst,hM3,hN,hNy,hq⟩:=k3
  obtain⟨b3,m1,m2,_⟩:=k2.raw _ _ _ _ _ hM3
  have hbb:b3=w.heap.size+1:=by
   rcases k1.mu (M.next+1) (by rw[hy];simp) with h|h|⟨_,_,_,_,h,_⟩
   ·rw[m1,hy] at h;cases h;rfl
   ·rw[m1] at h;cases h
   ·rw[hy] at h;cases h
  subst hbb
  obtain⟨_,e5,e6⟩:=gam_turn k2 hM3 m1 (.loop (loopR fn a.tmps ps assign body w.heap.size .exhausted pe)) (by intro c ty fr e;cases e)
  have hgN:=gam_unraw e6 hN hNy
  refine⟨pe,_,run_endLoop m2 hst,?_⟩
  have hfin:=hfr μ3 _ (k1.trans e5)
  have hevN:=hev3.trans e5
  match pe,hq with
  |none,hq=>exact⟨μ3,_,N,.normal,hevN,hgN,hfin,trivial,hq⟩
  |some .ret,hq=>exact wpIn_ret ⟨μ3,_,N,.ret,hevN,hgN,hfin,trivial,hq⟩
  |some (.exit id),hq=>exact wpIn_exit ⟨μ3,_,N,.exit id,hevN,hgN,hfin,rfl,hq⟩
 |panicked ch=>
  obtain⟨x,v,rfl,q1,q2⟩:=k3
  exact⟨μ3,_,M3,.panic x,hev3,k2,hfr μ3 w3 k1,⟨v,rfl,q1⟩,q2⟩
 |outgrown=>exact k3.elim
def MarksOK (K:Mem→Prop):List ADef→Mem→Prop
 |[],M=>K M
 |d::ds,M=>∃y N,d=markD y∧M.get y=some deferO∧N.le M∧N.get y=none∧MarksOK K ds N
def fnPostM (τ:Tab) (fn:Func) (R:AEnd→Mem→Prop):AX→AF→Mem→Prop
 |.normal,f,M|.ret,f,M=>MarksOK (fun N=>∃r,resA τ N ⟨f.t,[]⟩ fn.results=some r∧R (.ret r) N) f.d M
 |.panic v,f,M=>MarksOK (fun N=>R (.pan v) N) f.d M
 |.exit _,_,_=>False
theorem leavesM_of {P:Program} {fn:Func} {n:Nat} {F:Frm} {μ0:Mu} {w0:World} {tmps:Array Value} {K:Mem→Prop} {R:Ending→World→Prop} {u:FrameMode} (hu:u≠.run)
  (hK:∀(M:Mem) (μ:Mu) (w:World),K M→Evo w0 μ0 w μ→Gam μ F M w→LeavesIn Fence.wide n P fn tmps R [] u w):
  ∀(ds:List ADef) (rs:List Deferred) (M:Mem) (μ:Mu) (w:World),MarksOK K ds M→Evo w0 μ0 w μ→Gam μ F M w→DefRep μ F w ds rs→LeavesInM Fence.wide n P fn tmps R rs u w
 |[],[],M,μ,w,h,he,hg,_=>hK M μ w h he hg
 |[],_::_,_,_,_,_,_,_,hd=>hd.elim
 |_::_,[],_,_,_,_,_,_,hd=>hd.elim
 |d::ds,r::rs,M,μ,w,h,he,hg,hd=>by
  obtain⟨y,N,rfl,hM,hN,hy,hrest⟩:=h
  obtain⟨⟨_,_,hm⟩,hds⟩:=hd
  obtain⟨b,k1,k2,_⟩:=hg.raw y _ _ _ _ hM
  obtain⟨_,e5,e6⟩:=gam_turn hg hM k1 (.deferred none) (by intro c ty fr e;cases e)
  refine⟨hu,.inl ⟨b,_,(hm y rfl).2 b k1,run_takeDeferred k2,?_⟩⟩
  exact leavesM_of hu hK ds rs N μ _ hrest (he.trans e5) (gam_unraw e6 hN hy) (hds.evo e5)
theorem acalls_of_m {P:Program} {τ:Tab} (hτ:TabOK P τ) {g:FuncId} {fn:Func} {c:Code} (hf:P.funcs[g]? =some fn) (hb:fn.body=some c) (hn:fn.name≠ "runtime.NumGoroutine") {args:List AV} {M:Mem} {R:AEnd→Mem→Prop}
  (hlen:args.length≤fn.ntmps) (h:W none P fn.ntmps c (fnPostM τ fn R) (initF args) M):ACalls P g args M R:=by
 refine⟨⟨fn,c,hf,hb,hn⟩,fun μ F w vs hg hv=>?_⟩
 refine (callsIn_wide (n:=9)).1 ?_
 refine (callsIn_of_wp_marks (F:=Fence.wide) (n:=9) (R:=callPost F μ w R) hf hb trivial ?_ rfl).mono (fun e w' hp=>hp)
 refine wpIn_mono (h.run μ F w _ hg (initF_rep hlen hv)) ?_
 rintro e a' w' ⟨μ',f',M',x,h1,h2,h3,h4,h5⟩
 have hret:∀(N:Mem) (μ1:Mu) (w1:World),(∃r,resA τ N ⟨f'.t,[]⟩ fn.results=some r∧R (.ret r) N)→Evo w' μ' w1 μ1→Gam μ1 F N w1→LeavesIn Fence.wide 9 P fn a'.tmps (callPost F μ w R) [] .returning w1:=by
  rintro N μ1 w1 ⟨r,q1,q2⟩ q3 q4
  have hr1:RepF μ1 F w1 fn.ntmps ⟨f'.t,[]⟩ {tmps:=a'.tmps,defers:=[]}:=⟨h3.size,fun t=>(h3.tmps t).evo q3,trivial,fun p hp=>by cases hp⟩
  obtain⟨v,hv',hrep⟩:=run_resA (P:=P) hτ q4 hr1 q1
  exact⟨v,hv',μ1,N,h1.trans q3,q4,r,hrep,q2⟩
 cases e with
 |normal=>
  cases x<;>first|exact h4.elim|skip
  exact leavesM_of (w0:=w') (μ0:=μ') (by simp) (fun N μ1 w1 q1 q2 q3=>hret N μ1 w1 q1 q2 q3) _ _ _ _ _ h5 (Evo.refl _ _) h2 h3.defs
 |exit id=>cases x<;>first|exact h4.elim|exact h5.elim
 |goto l=>cases x<;>exact h4.elim
 |ret=>
  cases x<;>first|exact h4.elim|skip
  exact leavesM_of (w0:=w') (μ0:=μ') (by simp) (fun N μ1 w1 q1 q2 q3=>hret N μ1 w1 q1 q2 q3) _ _ _ _ _ h5 (Evo.refl _ _) h2 h3.defs
 |panic ch=>
  cases x<;>first|exact h4.elim|skip
  obtain⟨v,rfl,hrep⟩:=h4
  have hpan:∀(N:Mem) (μ1:Mu) (w1:World),R (.pan _) N→Evo w' μ' w1 μ1→Gam μ1 F N w1→LeavesIn Fence.wide 9 P fn a'.tmps (callPost F μ w R) [] (.panicking [{v,recovered:=false}]) w1:=
   fun N μ1 w1 q1 q2 q3=>⟨μ1,N,h1.trans q2,q3,_,v,rfl,hrep.evo q2,q1⟩
  exact leavesM_of (w0:=w') (μ0:=μ') (by simp) (fun N μ1 w1 q1 q2 q3=>hpan N μ1 w1 q1 q2 q3) _ _ _ _ _ h5 (Evo.refl _ _) h2 h3.defs
 |outgrown=>cases x<;>exact h4.elim
end Go.Ab
