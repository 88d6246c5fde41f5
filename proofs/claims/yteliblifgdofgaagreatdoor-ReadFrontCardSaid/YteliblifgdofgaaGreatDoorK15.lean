/- Parts of the proof, one behind the other. No further condition. -/
import Derived.Test.YteliblifgdofgaaGreatDoorK14
import Derived.Lib.LazyBuf
import Derived.Test.YteliblifgdofgaaGreatDoorK10
import Derived.Shelf.SlSortCmp.NoneTotal
import Derived.Shelf.Small.Strs
import Derived.Test.YteliblifgdofgaaGreatDoorProg
import Derived.KernelRfl
import Derived.Test.YteliblifgdofgaaGreatDoorK11
set_option linter.unusedVariables false
set_option linter.unusedSimpArgs false
set_option maxRecDepth 100000
set_option maxHeartbeats 8000000
namespace Go.Proofs.YteliblifgdofgaaGreatDoor
open Go.Ab
def o6 (c:Ch):Bool:=decide (200 < c.path.length)||decide (30 < c.meta_.ch.length)
def MO (l:List Ch):Bool:=decide (50 < l.length)||l.any o6
theorem a2o {l:List Ch} (h:MO l=false):l.length≤50∧∀c,c∈l→c.path.length≤200∧c.meta_.ch.length≤30:=by
 unfold MO o6 at h
 simp only[Bool.or_eq_false_iff,decide_eq_false_iff_not,List.any_eq_false,Bool.or_eq_true,decide_eq_true_eq,not_or] at h
 exact⟨by omega,fun p hp=>by have:=h.2 p hp;omega⟩
theorem a32 (l:List Ch) (tg:eE) (hl:l.length < 4611686018427387904):aO Tryz.prog 25 [mU l tg] (.bool (MO l)):=by
 intro M
 refine aC aF Tryz.func25 rfl (by decide) (by simp[Tryz.f25]) ?_
 have la:=bA Ch.av l
 unfold MO mU
 by_cases h80:50 < l.length
 ·have d1:decide ((0:Int) < (l.length:Int))=true:=by simp;omega
  have d2:decide ((l.length:Int)≤50)=false:=by simp;omega
  have d3:decide ((50:Int) < (l.length:Int))=true:=by simp;omega
  have e:decide (50 < l.length)=true:=by simp[h80]
  rw[e]
  repeat' (first|refine zA rfl ?_|refine aA ?_|refine aL rfl ?_)
  refine bC 0 (fun i f N=>N=M∧f=⟨[(0,.sl 5 (l.map Ch.av) tg),(3,.int .i64 (i:Int))],[]⟩) (Nat.zero_le _) ⟨rfl,rfl⟩ (aR.le ?_ (aG.le_refl _)) ?_
  ·skip
   repeat (refine AF.le_cons rfl ?_)
   exact AF.le_nil rfl
  rintro i f N hi ⟨rfl,rfl⟩
  obtain rfl:i=0:=by omega
  repeat' (first|refine zB rfl (by first|exact d1|exact d2|exact d3) ?_|refine zI rfl la ?_|refine zA rfl ?_|refine aA ?_|refine aL rfl ?_)
  exact⟨rfl,_,rfl,rfl,rfl⟩
 ·have d2:decide ((l.length:Int)≤50)=true:=by simp;omega
  have d3:decide ((50:Int) < (l.length:Int))=false:=by simp;omega
  have e:decide (50 < l.length)=false:=by simp;omega
  rw[e,Bool.false_or]
  repeat' (first|refine zA rfl ?_|refine aA ?_|refine aL rfl ?_)
  refine bC l.length (fun i f N=>N=M∧((l.take i).any o6=false)∧f=⟨[(0,.sl 5 (l.map Ch.av) tg),(3,.int .i64 (i:Int))],[]⟩) (Nat.zero_le _) ⟨rfl,by simp,rfl⟩ (aR.le ?_ (aG.le_refl _)) ?_
  ·skip
   repeat (refine AF.le_cons rfl ?_)
   exact AF.le_nil rfl
  rintro i f N hi ⟨rfl,hinv,rfl⟩
  by_cases h1:i < l.length
  ·have d1:decide ((i:Int) < (l.length:Int))=true:=by simp;omega
   have hx:l[i]? =some l[i]:=List.getElem?_eq_getElem h1
   have fi:=aZ (i:=i) (by omega)
   have ht:=bM hx
   have hm:=List.getElem_mem h1
   generalize l[i]=x at hx ht hm
   have e2:(l.take (i+1)).any o6=o6 x:=by rw[ht,List.any_append,hinv];simp
   have hs:o6 x=true→l.any o6=true:=fun h=>List.any_eq_true.2 ⟨x,List.mem_of_getElem? hx,h⟩
   have lx:=bA (fun n=>AV.int .i64 n) x.meta_.ch
   unfold o6 at hs e2
   by_cases h5:200 < x.path.length
   ·have d5:decide ((200:Int) < (x.path.length:Int))=true:=by simp;omega
    rw[show l.any o6=true from hs (by simp[h5])]
    repeat' (first|refine zB rfl (by first|exact d1|exact d2|exact d5) ?_|refine zI rfl la ?_|refine zA rfl ?_|refine aA ?_|refine aL rfl ?_|refine zX rfl (fB hx) ?_)
    exact⟨rfl,_,rfl,rfl,rfl⟩
   ·have d5:decide ((200:Int) < (x.path.length:Int))=false:=by simp;omega
    by_cases h6:30 < x.meta_.ch.length
    ·have d6:decide ((30:Int) < (x.meta_.ch.length:Int))=true:=by simp;omega
     rw[show l.any o6=true from hs (by simp[h6])]
     repeat' (first|refine zB rfl (by first|exact d1|exact d2|exact d5|exact d6) ?_|refine zI rfl (by first|exact la|exact lx) ?_|refine zA rfl ?_|refine aA ?_|refine aL rfl ?_|refine zX rfl (fB hx) ?_)
     exact⟨rfl,_,rfl,rfl,rfl⟩
    ·have d6:decide ((30:Int) < (x.meta_.ch.length:Int))=false:=by simp;omega
     repeat' (first|refine zB rfl (by first|exact d1|exact d2|exact d5|exact d6) ?_|refine zI rfl (by first|exact la|exact lx|exact fi) ?_|refine zA rfl ?_|refine aA ?_|refine aL rfl ?_|refine zX rfl (fB hx) ?_)
     refine⟨h1,_,_,⟨rfl,by rw[show o6=(fun c=>decide (200 < c.path.length)||decide (30 < c.meta_.ch.length)) from rfl,e2];simp[h5,h6],rfl⟩,aR.le ?_ (aG.le_refl _)⟩
     repeat (refine AF.le_cons rfl ?_)
     exact AF.le_nil rfl
  ·have d1:decide ((i:Int) < (l.length:Int))=false:=by simp;omega
   obtain rfl:i=l.length:=by omega
   rw[zH] at hinv
   rw[hinv]
   repeat' (first|refine zB rfl (by first|exact d1|exact d3) ?_|refine zI rfl la ?_|refine zA rfl ?_|refine aA ?_|refine aL rfl ?_)
   exact⟨rfl,_,rfl,rfl,rfl⟩
end Go.Proofs.YteliblifgdofgaaGreatDoor
namespace Go.Ab
open Go.RowKit
inductive eU (k:Nat) (M:aG):AV→AV→Prop where
 |sub (x y:AV) (h:∀(μ μ0:Mu) (F:c8) (w:World) (v:Value),(∀b o,iO μ F b o→iO μ0 F b o)→bP μ F w x v→bP μ0 F w y v):eU k M x y
 |agg (l l':List AV) (hl:l.length=l'.length) (h:∀(i:Nat) (x y:AV),l[i]? =some x→l'[i]? =some y→eU k M x y):eU k M (.agg l) (.agg l')
 |tup (l l':List AV) (hl:l.length=l'.length) (h:∀(i:Nat) (x y:AV),l[i]? =some x→l'[i]? =some y→eU k M x y):eU k M (.tup l) (.tup l')
 |osl (id n cap sz:Nat) (l xs:List AV) (hk:k≤id) (hM:M.get id=some (.cells l)) (hnc:n≤cap) (hn:xs.length=n) (hs:∀x,x∈xs→x.cells.length=sz) (hnl:n*sz≤l.length)
   (h:∀(p:Nat) (x y:AV),l[p]? =some x→(b8 xs)[p]? =some y→eU k M x y):eU k M (.osl id 0 n cap sz) (.sl sz xs .none)
theorem eU.rep {k:Nat} {M:aG} {x y:AV} (h:eU k M x y) {μ μ0:Mu} {F:c8} {w:World} (hg:dY μ F M w) (hown:∀b o,jG μ0 b o→jG μ b o) (hfree:∀id b o,k≤id→μ id=some (.at b)→¬jG μ0 b o):
  ∀{v:Value},bP μ F w x v→bP μ0 F w y v:=by
 induction h with
 |sub x y h=>exact fun hr=>h μ μ0 F w _ (fun b o hf=>⟨hf.1,fun ho=>hf.2 (hown b o ho)⟩) hr
 |agg l l' hl h ih=>
  intro v hr
  obtain⟨c,rfl,hs,h1,h2⟩:=hr.agg_inv
  refine .agg _ c (hs.trans hl) (fun i y u hy hu=>?_) h2
  have hi:i < l.length:=by rw[hl];exact (List.getElem?_eq_some_iff.1 hy).1
  exact ih i _ y (List.getElem?_eq_getElem hi) hy (h1 i _ u (List.getElem?_eq_getElem hi) hu)
 |tup l l' hl h ih=>
  intro v hr
  obtain⟨c,rfl,hs,h1⟩:=hr.tup_inv
  refine .tup _ c (hs.trans hl) (fun i y u hy hu=>?_)
  have hi:i < l.length:=by rw[hl];exact (List.getElem?_eq_some_iff.1 hy).1
  exact ih i _ y (List.getElem?_eq_getElem hi) hy (h1 i _ u (List.getElem?_eq_getElem hi) hu)
 |osl id n cap sz l xs hk hM hnc hn hs hnl h ih=>
  intro v hr
  obtain⟨b,c,ty,e1,e2,e3,e4,e5⟩:=hg.obj id l hM
  have hv:v=.slice (some ⟨b,0,none⟩) n cap:=by
   cases hr with
   |osl _ _ _ _ _ _ h1 h2 hv=>exact hv b e1
  subst hn
  rw[hv]
  refine r4 (b:=b) (o:=0) (vals:=fun p=>c.getD p undef) hs hnc (fun _=>rfl) (fun p y hy=>?_) trivial
  have hp:p < l.length:=by
   have h1:=(List.getElem?_eq_some_iff.1 hy).1
   rw[bZ hs] at h1
   omega
  have hpc:p < c.size:=by omega
  have hx:l[p]? =some l[p]:=List.getElem?_eq_getElem hp
  have hu:c[p]? =some c[p]:=Array.getElem?_eq_getElem hpc
  have hd:c.getD p undef=c[p]:=by simp[Array.getD_eq_getD_getElem?,hu]
  simp only[hd]
  refine⟨e4 p _ hu,?_,⟨fun hF=>hg.frm b _ ⟨id,.inl e1⟩ hF,hfree id b _ hk e1⟩,ih p _ y hx hy (e5 p _ _ hx hu)⟩
  rw[cF e2,Nat.zero_add]
  exact hu
theorem eU.closed {k:Nat} {M:aG} {x:AV} (h:aN x):eU k M x x:=.sub x x fun μ μ0 F w v hf hr=>h μ μ0 F F w v hf hr
theorem eU.sl {k:Nat} {M:aG} {sz:Nat} {xs:List AV} {t:eE} (hl:∀x,x∈xs→aN x) (hc:∀x,x∈xs→∀c,c∈x.cells→aN c):eU k M (.sl sz xs t) (.sl sz xs .none):=by
 refine .sub _ _ fun μ μ0 F w v hf hr=>?_
 have h1:bP μ F w (.sl sz xs .none) v:=by
  obtain⟨A,cap,ad,vals,rfl,hsz,hcap,hA,hone,hcell,hrep,htag⟩:=hr.sl_inv
  exact .sl sz xs .none A cap ad vals hsz hcap hA hone hcell hrep trivial
 exact bR (.inl rfl) hl hc μ μ0 F F w v hf h1
def a3a (k:Nat) (M:aG) (x y:AV):Prop:=aI k x y∨eU k M x y
def YK (k:Nat) (M:aG) (f:AF):List (Nat×AV)→Prop
 |[]=>True
 |(i,x)::r=>a3a k M (f.get i) x∧YK k M f r
theorem a3a.rep {k:Nat} {M:aG} {x y:AV} (h:a3a k M x y) {μ:Mu} {F:c8} {w:World} (hg:dY μ F M w) {v:Value} (hr:bP μ F w x v):bP (Go.Ab.cut μ k) F w y v:=by
 rcases h with h|h
 ·exact h μ F w v hr
 ·refine h.rep hg (fun b o ho=>sT ho) ?_ hr
  intro id b o hk hid ho
  obtain⟨j,hj⟩:=ho
  have hjk:j < k:=by
   rcases hj with hj|⟨e,g,hj,_⟩
   all_goals
    unfold Go.Ab.cut at hj
    split at hj
    ·assumption
    ·cases hj
  have hl:dH μ j b:=xW (by
   rcases hj with hj|⟨e,g,hj,_⟩
   ·exact .inl hj
   ·exact .inr ⟨e,g,hj⟩)
  have:=hg.inj j id b hl (.inl hid)
  omega
theorem BY {k:Nat} {M:aG} {f:AF}:∀{l:List (Nat×AV)} {d:List bJ},YK k M f l→∀t,a3a k M (f.get t) (AF.get ⟨l,d⟩ t)
 |[],d,_,t=>.inl aI.top
 |(i,x)::r,d,h,t=>by
  by_cases e:t=i
  ·subst e
   have:AF.get ⟨(t,x)::r,d⟩ t=x:=by simp[AF.get,aJ]
   rw[this];exact h.1
  ·have:AF.get ⟨(i,x)::r,d⟩ t=AF.get ⟨r,d⟩ t:=by simp[AF.get,aJ,e]
   rw[this];exact BY h.2 t
theorem aR.cutV {n0:Nat} {f:AF} {M:aG} {k:Nat} (hk:n0≤k) (hk2:k≤M.next) {t:List (Nat×AV)} {l:List (Nat×c7)} (hd:f.d=[]) (ht:YK k M f t) (ho:gE k M l):aR n0 f M ⟨t,[]⟩ ⟨k,l⟩:=by
 intro μ0 μ F w0 w n a hn he hg hr
 refine⟨Go.Ab.cut μ k,EC he (fun id h=>Nat.lt_of_lt_of_le (hn id h) hk),F6 hg hk2 ho,hr.size,fun i=>(BY ht i).rep hg (hr.tmps i),?_,fun p hp=>by cases hp⟩
 have:=hr.defs
 rw[hd] at this
 show fM _ _ _ [] a.defers
 rw[fN this]
 trivial
theorem aQ.cutV {P:Program} {g:FuncId} {args:List AV} {M:aG} {r:AV} {l:List (Nat×c7)} (h:aQ P g args M fun e N=>∃x,e=.ret x∧eU M.next N x r∧M.next≤N.next∧gE M.next N l):
  aQ P g args M fun e N=>e=.ret r∧N=⟨M.next,l⟩:=by
 refine h.joint ?_ ?_
 ·rintro x N ⟨y,e,hs,hn,ho⟩
  cases e
  exact⟨r,_,⟨rfl,rfl⟩,aR.cutV (Nat.le_refl _) hn rfl ⟨.inr hs,trivial⟩ ho⟩
 ·rintro x N ⟨y,e,_⟩
  cases e
def qB {α β:Type} (R:α→β→Prop):List α→List β→Prop
 |[],[]=>True
 |a::l,b::m=>R a b∧qB R l m
 |_,_=>False
theorem qB.len {α β:Type} {R:α→β→Prop}:∀{l:List α} {m:List β},qB R l m→l.length=m.length
 |[],[],_=>rfl
 |a::l,b::m,h=>by simp[qB.len h.2]
 |[],_::_,h=>h.elim
 |_::_,[],h=>h.elim
theorem qB.get {α β:Type} {R:α→β→Prop}:∀{l:List α} {m:List β},qB R l m→∀{i:Nat} {a:α} {b:β},l[i]? =some a→m[i]? =some b→R a b
 |a::l,b::m,h,0,x,y,hx,hy=>by
  cases hx
  cases hy
  exact h.1
 |a::l,b::m,h,i+1,x,y,hx,hy=>qB.get h.2 (i:=i) (by simpa using hx) (by simpa using hy)
 |[],[],_,i,x,y,hx,_=>by simp at hx
 |[],_::_,h,_,_,_,_,_=>h.elim
 |_::_,[],h,_,_,_,_,_=>h.elim
theorem qB.mono {α β:Type} {R S:α→β→Prop} (k:∀a b,R a b→S a b):∀{l:List α} {m:List β},qB R l m→qB S l m
 |[],[],_=>trivial
 |a::l,b::m,h=>⟨k _ _ h.1,qB.mono k h.2⟩
 |[],_::_,h=>h.elim
 |_::_,[],h=>h.elim
def YY (k:Nat) (M:aG) (x y:AV):Prop:=x.cells.length=y.cells.length∧∀(j:Nat) (a b:AV),x.cells[j]? =some a→y.cells[j]? =some b→eU k M a b
theorem CB {k:Nat} {M:aG} {rest:List AV}:∀{xs ys:List AV},qB (YY k M) xs ys→∀(p:Nat) (a b:AV),(b8 xs++rest)[p]? =some a→(b8 ys)[p]? =some b→eU k M a b
 |[],[],_,p,a,b,_,hb=>by simp[b8] at hb
 |x::xs,y::ys,h,p,a,b,ha,hb=>by
  obtain⟨⟨h1,h2⟩,h3⟩:=h
  have e1:b8 (x::xs)++rest=x.cells++(b8 xs++rest):=by simp[b8]
  have e2:b8 (y::ys)=y.cells++b8 ys:=by simp[b8]
  rw[e1] at ha
  rw[e2] at hb
  by_cases hp:p < x.cells.length
  ·rw[List.getElem?_append_left hp] at ha
   rw[List.getElem?_append_left (by omega)] at hb
   exact h2 p a b ha hb
  ·rw[List.getElem?_append_right (by omega)] at ha hb
   rw[←h1] at hb
   exact CB h3 _ a b ha hb
 |[],_::_,h,_,_,_,_,_=>h.elim
 |_::_,[],h,_,_,_,_,_=>h.elim
theorem eU.row {k:Nat} {M:aG} {id cap sz:Nat} {l xs ys:List AV} (hk:k≤id) (hM:M.get id=some (.cells l)) (hx:l.take (xs.length*sz)=b8 xs) (hs:∀x,x∈xs→x.cells.length=sz) (hnc:xs.length≤cap) (hnl:xs.length*sz≤l.length) (h:qB (YY k M) xs ys):
  eU k M (.osl id 0 xs.length cap sz) (.sl sz ys .none):=by
 have hl:=h.len
 have hys:∀y,y∈ys→y.cells.length=sz:=by
  intro y hy
  obtain⟨i,hi⟩:=List.mem_iff_getElem?.1 hy
  have hix:i < xs.length:=by rw[hl];exact (List.getElem?_eq_some_iff.1 hi).1
  have hx:=List.getElem?_eq_getElem hix
  rw[←(h.get hx hi).1]
  exact hs _ (List.getElem_mem hix)
 refine .osl id xs.length cap sz l ys hk hM hnc hl.symm hys hnl ?_
 intro p a b ha hb
 have e:l=b8 xs++l.drop (xs.length*sz):=by rw[←hx,List.take_append_drop]
 rw[e] at ha
 exact CB h p a b ha hb
end Go.Ab
namespace Go.Ab
open Go.RowKit
theorem U0 {P:Program} {o:Oper} {ts yt e:TypeId} (ht:P.underlying ts=some (.slice e)) {x y:Operand} (ho:o.op=.binOp .eql ts x y yt) {ρ:Operand→AV} {M:aG} {sz sz':Nat} {xs:List AV} {t:eE} (hx:ρ x=.sl sz xs t) (hy:y=.const (.slice none 0 0)) {Kp:AV→aG→Prop}:
  jD P o ρ M (fun u M'=>∃b,u=.bool b∧(xs≠[]→b=false)∧M'=M) Kp:=by
 intro μ F w a hg hr next Q' g1 g2
 have r1:=hr x (by simp[ho,Op.operands])
 rw[hx] at r1
 obtain⟨A,cap,ad,vals,hv,_,_,hA,_⟩:=r1.sl_inv
 have e2:a.eval y=.slice none 0 0:=by rw[hy];rfl
 have hrun:(execOp a.eval o).run P w=.ok (.value (.bool A.isNone)) w:=by
  have:=Go.run_eql_slice_nil (P:=P) w ts e A xs.length cap ht
  simp[execOp,ho,hv,e2,eqGuard,this]
 unfold Oper.wp
 rw[hrun]
 refine g1 μ M w _ _ (dQ.refl w μ) hg (.bool _) ⟨_,rfl,fun hne=>?_,rfl⟩
 have:=(hA (List.length_pos_iff.2 hne)).1
 rw[this]
 rfl
theorem ED {P:Program} {τ:Tab} (hτ:TabOK P τ) {t tx e:TypeId} {ti ei xi:TI} (hin:pY P τ t e ti ei) (hxi:aJ τ tx=some xi) {s x:Operand} {ty:TypeId} {ρ:Operand→AV} {sz:Nat} {xs:List AV} {tg:eE} (hS:ρ s=.sl sz xs tg)
  (hf:eG xi.k (ρ x)=true) (hX:iI ei.size (ρ x)=some []):jF P (.call {callee:=.builtin .append,args:=#[s,x],argTypes:=#[t,tx]}) ty ρ (.sl sz xs tg):=by
 refine b7 ?_
 intro μ F w ρc o ho hty hr
 have hs:=hr s (by simp[Op.operands,Call.operands])
 have hx:=hr x (by simp[Op.operands,Call.operands])
 rw[hS] at hs
 obtain⟨hsy,news,hsrc,hnew⟩:=uC hτ hxi hf hX hx
 obtain⟨ft,dt,zt,HT⟩:=TI.spec hτ hin.tl
 obtain⟨fe,de,ze,HE⟩:=TI.spec hτ hin.el
 have hfi:=HT.fits
 rw[hin.tk] at hfi
 have hdd:dt=.slice e:=by
  cases dt<;>simp[TK.fits] at hfi
  rw[hfi]
 subst hdd
 obtain⟨A,cap,ad,vals,hv,_,hcap,_⟩:=hs.sl_inv
 have hn0:news=[]:=List.eq_nil_of_length_eq_zero (by have:=hsrc.newsLen;simpa using this)
 subst hn0
 refine⟨ρc s,?_,by rw[hv] at hs ⊢;exact hs⟩
 have hl:=hsrc.len w
 have hcell:=hsrc.cells
 have hsize:=HE.size
 simp only[List.length_nil] at hl hcell
 rw[←hsize] at hcell
 have hrun:(Builtin.append_ #[t,tx] o.type #[ρc s,ρc x]).run P w=.ok (ρc s) w:=by
  rw[hv]
  rcases hsrc.kind with ⟨e',hk⟩|hk<;>cases A<;>simp[Builtin.append_,run_underlying HT.und,run_underlying hk,sizeOf,typeInfo,HE.info,hl,hcap,hcell,storeCells]
 simp[execOp,ho,resolve,invoke,builtin,hrun]
section
variable {P:Program} {τ:Tab} {ops:Array Oper} {cls:Nat→fQ} {Q:AX→AF→aG→Prop} {ds:List bJ} {ls:List Nat} {i:Nat} {t:List (Nat×AV)} {M:aG}
def J1 (ops:Array Oper) (cls:Nat→fQ) (ds:List bJ) (i:Nat) (t:List (Nat×AV)):Option (Nat×TypeId×List AV):=
 match ops[i]? with
 |some o=>
  match aT ops ⟨t,ds⟩ o,o.dst,n7 (cls i),o.op with
  |some true,some d,true,.binOp .eql ts x (.const (.slice none 0 0)) _=>(match AF.ev ⟨t,ds⟩ x with
   |.sl _ xs _=>some (d,ts,xs)
   |_=>none)
  |_,_,_,_=>none
 |none=>none
theorem iZ {d:Nat} {ts e:TypeId} {xs:List AV} (hs:J1 ops cls ds i t=some (d,ts,xs)) (ht:P.underlying ts=some (.slice e)) (h:∀b:Bool,(xs≠[]→b=false)→DW P ops cls Q ds ls ((d,.bool b)::t) M):DW P ops cls Q ds (i::ls) t M:=by
 unfold J1 at hs
 split at hs
 ·rename_i o hi
  split at hs
  ·rename_i d' ts' x yt hw hd hc ho
   split at hs
   ·rename_i sz xs' tg hx
    cases hs
    refine eN hi hw ?_
    refine SC.of_G hc (by intro c hc;rw[ho] at hc;cases hc) ?_
    refine jD.mono (U0 ht ho (sz':=0) hx rfl) ?_
    rintro u M' ⟨b,rfl,hb,rfl⟩
    have:=h b hb
    simpa [AF.put,hd] using this
   ·cases hs
  ·cases hs
 ·cases hs
theorem PK (hτ:TabOK P τ) {d:Nat} {o:Oper} (hi:ops[i]? =some o) (hw:aT ops ⟨t,ds⟩ o=some true) (hd:o.dst=some d) {ty tx e:TypeId} {s x:Operand} (ho:o.op=.call {callee:=.builtin .append,args:=#[s,x],argTypes:=#[ty,tx]})
  {sz:Nat} {xs:List AV} {tg:eE} (hS:AF.ev ⟨t,ds⟩ s=.sl sz xs tg) {ti ei xi:TI} (ht:aJ τ ty=some ti) (hk:ti.k=.slice e) (he:aJ τ e=some ei) (hp:decide (0 < ei.size)=true) (hxi:aJ τ tx=some xi) (hf:eG xi.k (AF.ev ⟨t,ds⟩ x)=true) (hX:iI ei.size (AF.ev ⟨t,ds⟩ x)=some [])
  (h:DW P ops cls Q ds ls ((d,.sl sz xs tg)::t) M):DW P ops cls Q ds (i::ls) t M:=
 fR hi hw hd (by rw[ho];exact ED hτ ⟨ht,hk,he,of_decide_eq_true hp⟩ hxi hS hf hX) h
end
end Go.Ab
namespace Go.Ab
open Go.Shelf Go.RowKit Go.Proofs Go.Sort
theorem wH {n:Nat} {d d':Array (Fin n)} (hs:d'.size=d.size) (h:(d'.extract 0 d.size).toList.Perm (d.extract 0 d.size).toList):d'.toList.Perm d.toList:=by
 have e1:d.extract 0 d.size=d:=by simp
 have e2:d'.extract 0 d.size=d':=by rw[←hs];simp
 rwa [e1,e2] at h
theorem NG {α:Type} [Inhabited α] (enc:α→List Value) (k:Nat) (w:World) (b m:Nat) (dk:Array α) (os:Array Obj) {c:Array Value} {ty:TypeId} (hb:w.heap[b]? =some (.cells c ty (0,0))):
  w6 w b (w.putObj b (.cells (putCells id 0 (flatK enc k dk) c) ty (0,0)))∧Below w.heap.size (w.putObj b (.cells (putCells id 0 (flatK enc k dk) c) ty (0,0))) (sortWorldK enc k w b 0 m dk os):=by
 have hlt:b < w.heap.size:=(Array.getElem?_eq_some_iff.1 hb).1
 refine⟨CC w b _,?_⟩
 have hh:(mapBlock (Sort.ahead w m) b (putCells id 0 (flatK enc k dk))).heap=(w.putObj b (.cells (putCells id 0 (flatK enc k dk) c) ty (0,0))).heap:=by
  apply Array.ext_getElem?
  intro j
  show (w.heap.modify b (onCells (putCells id 0 (flatK enc k dk))))[j]? =(w.heap.setIfInBounds b _)[j]?
  rw[Array.getElem?_modify]
  by_cases hj:b=j
  ·subst hj
   have hq:w.heap[b]=.cells c ty (0,0):=(Array.getElem?_eq_some_iff.1 hb).2
   simp[onCells,hlt,hq]
  ·simp[hj]
 refine⟨rfl,rfl,rfl,?_,?_⟩
 ·show _≤((mapBlock (Sort.ahead w m) b (putCells id 0 (flatK enc k dk))).heap++os).size
  rw[hh,Array.size_append]
  omega
 ·intro j hj
  show ((mapBlock (Sort.ahead w m) b (putCells id 0 (flatK enc k dk))).heap++os)[j]? =_
  rw[hh,Array.getElem?_append_left (by simpa using hj)]
def a5g {κ:Type} (P:Program) (g:FuncId) (cf:κ→κ→Int) (key:AV→κ) (xs:List AV):Prop:=
 ∀(μ:Mu) (F:c8) (w:World) (x y:AV) (c1 c2:Array Value),x∈xs→y∈xs→bP μ F w x (.agg c1)→bP μ F w y (.agg c2)→
  ∀W,Calls P g #[.agg c1,.agg c2] W fun e w'=>e=.returned (.int .i64 (cf (key x) (key y)))∧∃q os',w'=grow (W.drewN q) os'
theorem JH {P:Program} {ρ:Ren} (L:SlLaysF0.n6 P ρ) (he:jM P (ρ.f 6)) {k:Nat} (hk0:0 < k) (aE:∀w,(isAgg (ρ.t 24)).run P w=.ok true w) (zE:∀w,(Go.sizeOf (ρ.t 24)).run P w=.ok k w) {g:FuncId} (hge:jM P g)
  {κ:Type} (cf:κ→κ→Int) (hO:SWO (ltOf cf)) (key:AV→κ) {M:aG} {id cap:Nat} {l xs:List AV} (hcmp:a5g P g cf key xs) (hM:M.get id=some (.cells l)) (hx:l.take (xs.length*k)=b8 xs) (hs:∀x,x∈xs→∃cs,x=.agg cs∧cs.length=k)
  (hne:xs≠[]) (hlen:xs.length*k≤l.length) (hsz:xs.length < 4611686018427387904):
  aQ P (ρ.f 6) [.osl id 0 xs.length cap k,.fn (.func g) [] []] M fun e N=>e=.ret (.tup [])∧∃ys:List AV,ys.Perm xs∧(ys.Pairwise fun a b=>¬cf (key b) (key a) < 0)∧N=M.set id (.cells (b8 ys++l.drop (xs.length*k))):=by
 refine⟨he,fun μ F w vs hg hvs=>?_⟩
 obtain⟨b,c,ty,e1,e2,e3,e4,e5⟩:=hg.obj id l hM
 have hpos:0 < xs.length:=List.length_pos_iff.2 hne
 have hcs:∀x,x∈xs→x.cells.length=k:=by
  intro x hx
  obtain⟨cs,rfl,h⟩:=hs x hx
  exact h
 obtain⟨hvl,hvr⟩:=hvs
 match vs,hvl with
 |⟨[v1,v2]⟩,_=>
  have r1:=hvr 0 _ v1 rfl rfl
  have r2:=hvr 1 _ v2 rfl rfl
  have hv1:v1=.slice (some ⟨b,0,none⟩) xs.length cap:=by
   cases r1 with
   |osl _ _ _ _ _ _ h1 h2 hv=>exact hv b e1
  obtain⟨c1,c2,hv2,hz1,hz2,_,_⟩:=r2.fn_inv
  have hc1:c1=#[]:=Array.eq_empty_of_size_eq_zero (by simpa using hz1)
  have hc2:c2=#[]:=Array.eq_empty_of_size_eq_zero (by simpa using hz2)
  subst hc1
  subst hc2
  subst hv1
  subst hv2
  generalize hn:xs.length=n at*
  haveI:Inhabited (Fin n):=⟨⟨0,hpos⟩⟩
  let enc:Fin n→List Value:=fun i=>(List.range k).map fun j=>c.getD (i.val*k+j) undef
  have henc:∀(i:Fin n) (j:Nat),j < k→(enc i)[j]? =some (c.getD (i.val*k+j) undef):=by
   intro i j hj
   simp[enc,hj]
  have hbnd:∀(i:Fin n) (j:Nat),j < k→i.val*k+j < c.size:=by
   intro i j hj
   have h1:(i.val+1)*k≤n*k:=Nat.mul_le_mul_right k i.isLt
   rw[Nat.add_mul,Nat.one_mul] at h1
   omega
  have hgetD:∀(p:Nat),p < c.size→c[p]? =some (c.getD p undef):=by
   intro p hp
   simp[Array.getD_eq_getD_getElem?,Array.getElem?_eq_getElem hp]
  have hk:∀x,(enc x).length=k:=fun x=>by simp[enc]
  have h1:∀x,∀v∈enc x,v.oneCell'=true:=by
   intro x v hv
   simp only[enc,List.mem_map,List.mem_range] at hv
   obtain⟨j,hj,rfl⟩:=hv
   exact e4 _ _ (hgetD _ (hbnd x j hj))
  have hel:∀(i:Fin n),∃x,xs[i.val]? =some x:=fun i=>⟨_,List.getElem?_eq_getElem (by omega)⟩
  have hrep:∀(i:Fin n) (x:AV),xs[i.val]? =some x→bP μ F w x (.agg (enc i).toArray):=by
   intro i x hxi
   obtain⟨cs,rfl,hcl⟩:=hs x (List.mem_of_getElem? hxi)
   refine .agg cs _ (by simp[hk,hcl]) (fun j y u hy hu=>?_) (fun j u hu=>h1 i u (List.mem_of_getElem? (by simpa using hu)))
   have hj:j < k:=by rw[←hcl];exact (List.getElem?_eq_some_iff.1 hy).1
   have hu2:u=c.getD (i.val*k+j) undef:=by
    have:=henc i j hj
    rw[List.getElem?_toArray,this] at hu
    exact (Option.some.inj hu).symm
   subst hu2
   have hfl:(b8 xs)[i.val*k+j]? =some y:=nX hcs hxi hy
   have hly:l[i.val*k+j]? =some y:=by
    rw[←hx] at hfl
    rw[List.getElem?_take] at hfl
    split at hfl
    ·exact hfl
    ·cases hfl
   exact e5 _ y _ hly (hgetD _ (hbnd i j hj))
  let rY:Fin n→κ:=fun i=>key ((xs[i.val]?).getD .top)
  let cfI:Fin n→Fin n→Int:=fun i j=>cf (rY i) (rY j)
  have hOI:SWO (ltOf cfI):=⟨fun x=>hO.irrefl _,fun x y z=>hO.trans _ _ _,fun x y z=>hO.ntrans _ _ _⟩
  let d:Array (Fin n):=(List.finRange n).toArray
  have hds:d.size=n:=by simp[d]
  have hdi:∀t,t < n→(d[t]!).val=t:=by
   intro t ht
   have:d[t]! =(List.finRange n)[t]'(by simpa using ht):=by
    rw[getElem!_pos d t (by rw[hds];exact ht)]
    simp[d]
   rw[this]
   simp
  have hH:HoldsK enc k w b 0 d:=by
   intro j hj
   rw[size_flatK,hds] at hj
   have hjk:j/k < n:=Nat.div_lt_of_lt_mul (by rwa [Nat.mul_comm] at hj)
   have hjm:j%k < k:=Nat.mod_lt _ hk0
   have hidx:j/k*k+j%k=j:=by rw[Nat.mul_comm];exact Nat.div_add_mod j k
   rw[get_flatK enc k d j (by rw[hds];exact hj)]
   have hv:(enc d[j/k]!)[j%k]! =c.getD j undef:=by
    have:=henc (d[j/k]!) (j%k) hjm
    rw[hdi _ hjk,hidx] at this
    rw[List.getElem!_eq_getElem?_getD,this]
    rfl
   have hjc:j < c.size:=by omega
   refine⟨?_,?_⟩
   ·rw[cF e2,hv,Nat.zero_add]
    exact hgetD j hjc
   ·simp[World.frozen?,e2]
  have hblk:b < w.heap.size:=(Array.getElem?_eq_some_iff.1 e2).1
  have hC:CmpLays P g #[] enc k cfI b 0 d.size w:=by
   intro m os dk hdk x y
   obtain⟨X,hX⟩:=hel x
   obtain⟨Y,hY⟩:=hel y
   have:=hcmp μ F w X Y _ _ (List.mem_of_getElem? hX) (List.mem_of_getElem? hY) (hrep x X hX) (hrep y Y hY) (sortWorldK enc k w b 0 m dk os)
   have e:cfI x y=cf (key X) (key Y):=by simp[cfI,rY,hX,hY]
   rw[e]
   simpa using this
  have hcall:=AnyQ.slices_SortFunc (P:=P) (ρ:=ρ) L k aE zE enc hk h1 cfI hOI g #[] b 0 cap d w (fun args w=>jV hge args w) hC hH hblk (by rw[hds];exact hsz)
  rw[hds] at hcall
  refine hcall.mono ?_
  rintro e w' ⟨rfl,d',m,os,⟨hp1,_,hp3⟩,hsort,rfl⟩
  have hds':d'.size=n:=by omega
  have hperm:d'.toList.Perm d.toList:=wH hp1 (by rw[hds];exact hp3)
  let ys:List AV:=d'.toList.map fun i=>(xs[i.val]?).getD .top
  have hdx:d.toList.map (fun i:Fin n=>(xs[i.val]?).getD .top)=xs:=by
   apply List.ext_getElem?
   intro t
   by_cases ht:t < n
   ·have:xs[t]? =some (xs[t]'(by omega)):=List.getElem?_eq_getElem (by omega)
    simp[d,List.getElem?_map,ht,this]
   ·rw[List.getElem?_eq_none (by simp[d];omega),List.getElem?_eq_none (by omega)]
  have hys:ys.Perm xs:=by
   have:=hperm.map (fun i:Fin n=>(xs[i.val]?).getD .top)
   rwa [hdx] at this
  obtain⟨hw1,hb1⟩:=NG enc k w b m d' os e2
  have hyl:ys.length=n:=by simp[ys,hds']
  have hycs:∀y,y∈ys→y.cells.length=k:=fun y hy=>hcs y (hys.mem_iff.1 hy)
  have hyflat:(b8 ys).length=n*k:=by rw[bZ hycs,hyl]
  have hd'i:∀t,t < n→d'.toList[t]? =some d'[t]! :=by
   intro t ht
   rw[Array.getElem?_toList,Array.getElem?_eq_getElem (by omega),getElem!_pos d' t (by omega)]
  have hyi:∀t,t < n→∃x,xs[(d'[t]!).val]? =some x∧ys[t]? =some x:=by
   intro t ht
   obtain⟨x,hxx⟩:=hel d'[t]!
   refine⟨x,hxx,?_⟩
   show (d'.toList.map fun i:Fin n=>(xs[i.val]?).getD .top)[t]? =some x
   rw[List.getElem?_map,hd'i t ht]
   simp[hxx]
  have hsz':(flatK enc k d').size=n*k:=by rw[size_flatK,hds']
  have hput:∀p,(putCells _root_.id 0 (flatK enc k d') c)[p]? =(c[p]?).map fun v=>if p < n*k then (flatK enc k d')[p]! else v:=by
   intro p
   simp[putCells,Array.getElem?_mapIdx,hsz']
  have hcell:∀p,p < n*k→(putCells _root_.id 0 (flatK enc k d') c)[p]? =some (c.getD ((d'[p/k]!).val*k+p%k) undef):=by
   intro p hp
   have hpk:p/k < n:=Nat.div_lt_of_lt_mul (by rwa [Nat.mul_comm] at hp)
   have hpm:p%k < k:=Nat.mod_lt _ hk0
   rw[hput,Array.getElem?_eq_getElem (by omega),Option.map_some,if_pos hp,get_flatK enc k d' p (by rw[hds'];exact hp)]
   have:=henc (d'[p/k]!) (p%k) hpm
   rw[List.getElem!_eq_getElem?_getD,this]
   rfl
  have hbig:∀p,¬p < n*k→(putCells _root_.id 0 (flatK enc k d') c)[p]? =c[p]? :=by
   intro p hp
   rw[hput]
   simp[hp]
  obtain⟨hev,hG⟩:=lN hg e1 e2 hw1 (l:=b8 ys++l.drop (n*k)) (c:=putCells _root_.id 0 (flatK enc k d') c) (World.putObj_heap_same hblk) (by simp[putCells]) (by simp[putCells,hyflat];omega) (by
   intro p v hv
   by_cases hp:p < n*k
   ·rw[hcell p hp] at hv
    cases hv
    have hpm:p%k < k:=Nat.mod_lt _ hk0
    exact e4 _ _ (hgetD _ (hbnd _ _ hpm))
   ·rw[hbig p hp] at hv
    exact e4 p v hv) (by
   intro p y v hy hv
   by_cases hp:p < n*k
   ·rw[hcell p hp] at hv
    cases hv
    rw[List.getElem?_append_left (by omega)] at hy
    have hpk:p/k < n:=Nat.div_lt_of_lt_mul (by rwa [Nat.mul_comm] at hp)
    have hpm:p%k < k:=Nat.mod_lt _ hk0
    have hidx:p/k*k+p%k=p:=by rw[Nat.mul_comm];exact Nat.div_add_mod p k
    obtain⟨x,hx1,hx2⟩:=hyi (p/k) hpk
    obtain⟨cs,rfl,hcl⟩:=hs x (List.mem_of_getElem? hx1)
    have hz:cs[p%k]? =some (cs[p%k]'(by omega)):=List.getElem?_eq_getElem (by omega)
    have hf:(b8 ys)[p/k*k+p%k]? =some (cs[p%k]'(by omega)):=nX hycs hx2 hz
    rw[hidx,hy] at hf
    cases hf
    obtain⟨c9,hc9,_,h3,_⟩:=(hrep _ _ hx1).agg_inv
    cases hc9
    exact h3 (p%k) _ _ hz (by rw[List.getElem?_toArray];exact henc _ _ hpm)
   ·rw[hbig p hp] at hv
    rw[List.getElem?_append_right (by omega),hyflat,List.getElem?_drop] at hy
    have e:n*k+(p - n*k)=p:=by omega
    rw[e] at hy
    exact e5 p y v hy hv)
  have hb2:Below w.heap.size (w.putObj b (.cells (putCells _root_.id 0 (flatK enc k d') c) ty (0,0))) (sortWorldK enc k w b 0 m d' os):=hb1
  have hb3:Below (w.putObj b (.cells (putCells _root_.id 0 (flatK enc k d') c) ty (0,0))).heap.size (w.putObj b (.cells (putCells _root_.id 0 (flatK enc k d') c) ty (0,0))) (sortWorldK enc k w b 0 m d' os):=by
   rw[World.putObj_size]
   exact hb2
  refine⟨μ,_,hev.trans (dQ.of_below μ hb3),hG.below hb3,.tup [],.tup _ _ rfl (by intro i x v hx;simp at hx),rfl,ys,hys,?_,rfl⟩
  rw[List.pairwise_iff_getElem]
  intro i j hi hj hij
  have hj':j < n:=by omega
  obtain⟨x,hx1,hx2⟩:=hyi i (by omega)
  obtain⟨y,hy1,hy2⟩:=hyi j hj'
  have ex:ys[i]=x:=by
   have:=List.getElem?_eq_getElem hi
   rw[hx2] at this
   exact (Option.some.inj this).symm
  have ey:ys[j]=y:=by
   have:=List.getElem?_eq_getElem hj
   rw[hy2] at this
   exact (Option.some.inj this).symm
  rw[ex,ey]
  have h:=hsort i j (Nat.zero_le _) hij hj'
  have h2:cfI d'[j]! d'[i]! =cf (key y) (key x):=by simp[cfI,rY,hx1,hy1]
  unfold ltOf at h
  rw[h2] at h
  simpa using h
end Go.Ab
namespace Go.Ab
open Go.RowKit
theorem JT {P:Program} {w:World} {isS:Bool} {n m:Nat} {L:Option Value} {k1 k2:IntKind} {l h:Int} (hL:(L=none∧l=0)∨∃k,L=some (.int k l)) (h0:0≤l) (h1:l≤h) (h2:h≤m):
  (Instr.sliceBounds isS n m L (some (.int k1 h)) (some (.int k2 h))).run P w=.ok (l.toNat,h.toNat,h.toNat) w:=by
 have a1:0≤h:=by omega
 have a2:l≤((h.toNat:Nat):Int):=by omega
 have a3:h≤((h.toNat:Nat):Int):=by omega
 rcases hL with ⟨rfl,rfl⟩|⟨k,rfl⟩
 ·simp[Instr.sliceBounds,cZ a1 h2,cZ a1 a3]
 ·simp[Instr.sliceBounds,cZ a1 h2,cZ a1 a3,cZ h0 a2]
theorem KN {P:Program} {τ:Tab} (hτ:TabOK P τ) {t e:TypeId} {ti ei:TI} (ht:aJ τ t=some ti) (hk:ti.k=.slice e) (he:aJ τ e=some ei) {X:Operand} {L:Option Operand} {Hh Mx:Operand} {k1 k2:IntKind} {ty:TypeId} {ρ:Operand→AV} {sz:Nat} {xs:List AV} {tg:eE} {l h:Int}
  (hX:ρ X=.sl sz xs tg) (hL:rK (L.map ρ) 0=some l) (hH:ρ Hh=.int k1 h) (hMx:ρ Mx=.int k2 h) (h0:0≤l) (h1:l≤h) (h2:h≤xs.length) (hsz:sz=ei.size):
  jF P (.slice t X L (some Hh) (some Mx)) ty ρ (.sl sz ((xs.take h.toNat).drop l.toNat) .none):=by
 refine b7 ?_
 intro μ F w ρc o ho hty hr
 have hx:=hr X (by simp[Op.operands])
 rw[hX] at hx
 generalize hv:ρc X=v at hx
 obtain⟨A,cap,ad,vals,rfl,hs,hcap,hA,hone,hcell,hrep,htag⟩:=hx.sl_inv
 obtain⟨ft,dt,zt,HT⟩:=TI.spec hτ ht
 obtain⟨fe,de,ze,HE⟩:=TI.spec hτ he
 have hf:=HT.fits
 rw[hk] at hf
 have hdd:dt=.slice e:=by
  cases dt<;>simp[TK.fits] at hf
  rw[hf]
 subst hdd
 have rH:=hr Hh (by simp[Op.operands])
 have rM:=hr Mx (by simp[Op.operands])
 rw[hH] at rH
 rw[hMx] at rM
 have eH:ρc Hh=.int k1 h:=by
  generalize ρc Hh=u at rH
  cases rH
  rfl
 have eM:ρc Mx=.int k2 h:=by
  generalize ρc Mx=u at rM
  cases rM
  rfl
 have hb:=JT (P:=P) (w:=w) (isS:=true) (n:=xs.length) (m:=cap) (k1:=k1) (k2:=k2) (iD (d:=0) hL fun x hx=>hr x (by simp[Op.operands,hx])) h0 h1 (by omega)
 obtain⟨ln,rfl⟩:=Int.eq_ofNat_of_zero_le h0
 obtain⟨hn,rfl⟩:=Int.eq_ofNat_of_zero_le (show 0≤h by omega)
 simp only[Int.toNat_natCast] at hb ⊢
 have hlen:((xs.take hn).drop ln).length=hn - ln:=by simp;omega
 have hget:∀(i:Nat) (x:AV),((xs.take hn).drop ln)[i]? =some x→xs[ln+i]? =some x:=by
  intro i x hx
  rw[List.getElem?_drop,List.getElem?_take] at hx
  split at hx
  ·exact hx
  ·cases hx
 refine⟨.slice (if hn=ln then A else A.map (·.add (ln*sz))) ((xs.take hn).drop ln).length (hn - ln),?_,?_⟩
 ·simp only[execOp,ho,hv,Instr.sliceAt,Sem.run_bind,run_underlying HT.und,Result.andThen_ok,Instr.slice,Option.map_some,eH,eM,hb,run_sizeOf w HE.info,HE.cellsOf,Sem.run_pure,hlen,hsz]
 ·have hsh:∀i j:Nat,ln*sz+(i*sz+j)=(ln+i)*sz+j:=fun i j=>by rw[Nat.add_mul,Nat.add_assoc]
  refine .sl _ _ _ _ _ ⟨ad.block,ad.off+ln*sz,none⟩ (fun p=>vals (ln*sz+p)) ?_ (by rw[hlen];omega) ?_ ?_ ?_ ?_ trivial
  ·intro x hx
   exact hs x (List.mem_of_mem_take (List.mem_of_mem_drop hx))
  ·intro h3
   rw[hlen] at h3
   obtain⟨h4,h5⟩:=hA (by omega)
   rw[if_neg (by omega),h4]
   refine⟨?_,rfl⟩
   obtain⟨bb,oo,ss⟩:=ad
   simp only at h5
   subst h5
   simp[Addr.add_lit]
  ·intro i x j c hx hj
   show (vals _).oneCell'=true
   rw[hsh]
   exact hone _ _ _ _ (hget i x hx) hj
  ·intro i x j c hx hj
   have:=hcell _ _ _ _ (hget i x hx) hj
   simp only
   rw[Nat.add_assoc,hsh]
   exact this
  ·intro i x j c hx hj
   show bP _ _ _ _ (vals _)
   rw[hsh]
   exact hrep _ _ _ _ (hget i x hx) hj
section
variable {P:Program} {τ:Tab} {ops:Array Oper} {cls:Nat→fQ} {Q:AX→AF→aG→Prop} {ds:List bJ} {ls:List Nat} {i:Nat} {t:List (Nat×AV)} {M:aG}
def K7 (τ:Tab) (ops:Array Oper) (ds:List bJ) (i:Nat) (t:List (Nat×AV)):Option (Nat×Nat×List AV×Int×Int×Int):=
 match ops[i]? with
 |some o=>(match aT ops ⟨t,ds⟩ o,o.dst,o.op with
  |some true,some d,.slice ty X L (some H) (some Mx)=>(match AF.ev ⟨t,ds⟩ X,aJ τ ty with
   |.sl sz xs tg,some ti=>(match ti.k with
    |.slice e=>(match aJ τ e with
     |some ei=>(match decide (sz=ei.size),rK (L.map (AF.ev ⟨t,ds⟩)) 0,AF.ev ⟨t,ds⟩ H,AF.ev ⟨t,ds⟩ Mx with
      |true,some lo,.int _ hi,.int _ mx=>some (d,sz,xs,lo,hi,mx)
      |_,_,_,_=>none)
     |none=>none)
    |_=>none)
   |_,_=>none)
  |_,_,_=>none)
 |none=>none
theorem a0a (hτ:TabOK P τ) {d sz:Nat} {xs ys:List AV} {lo hi mx:Int} (hs:K7 τ ops ds i t=some (d,sz,xs,lo,hi,mx)) (hx:0≤lo∧lo≤hi∧hi≤xs.length∧(xs.take hi.toNat).drop lo.toNat=ys) (hm:mx=hi) (h:DW P ops cls Q ds ls ((d,.sl sz ys .none)::t) M):DW P ops cls Q ds (i::ls) t M:=by
 obtain⟨h0,h1,h2,rfl⟩:=hx
 unfold K7 at hs
 split at hs
 ·rename_i o hi'
  split at hs
  ·rename_i d' ty X L H Mx hw hd ho
   split at hs
   ·rename_i sz' xs' tg ti hX ht
    split at hs
    ·rename_i e hk
     split at hs
     ·rename_i ei he
      split at hs
      ·rename_i lo' k1 hi2 k2 mx2 hsz hL hH hMx
       cases hs
       subst hm
       exact fR hi' hw hd (by rw[ho];exact KN hτ ht hk he hX hL hH hMx h0 h1 h2 (of_decide_eq_true hsz)) h
      ·cases hs
     ·cases hs
    ·cases hs
   ·cases hs
  ·cases hs
 ·cases hs
end
end Go.Ab
namespace Go.Proofs.YteliblifgdofgaaGreatDoor
open Go.Ab
def a3g (k:Nat) (N:aG) (x:AV) (ch:List Int):Prop:=(ch=[]∧∃sz t,x=.sl sz [] t)∨
 ∃(id cap:Nat) (cells:List AV),x=.osl id 0 ch.length cap 1∧0 < id∧id < k∧N.get id=some (.cells cells)∧cells.take ch.length=(ch.map fun n=>AV.int .i64 n)∧ch.length≤cap∧cells.length=cap
def O4 (k:Nat) (N:aG) (x:AV) (c:Ch):Prop:=∃y,x=.agg [.str c.path,.bool c.gone,.int .i64 c.meta_.size,.int .i64 c.meta_.mode,y]∧a3g k N y c.meta_.ch
def rG (k:Nat) (N N':aG):Prop:=∀id,0 < id→id < k→N'.get id=N.get id
theorem rG.refl {k:Nat} {N:aG}:rG k N N:=fun _ _ _=>rfl
theorem rG.trans {k:Nat} {a b c:aG} (h:rG k a b) (g:rG k b c):rG k a c:=fun id h0 h1=>(g id h0 h1).trans (h id h0 h1)
theorem rG.push {k:Nat} {N:aG} {o:c7} (hk:k≤N.next):rG k N (N.push o):=fun id _ h=>by rw[aG.get_push,if_neg (by omega)]
theorem rG.set {k:Nat} {N:aG} {id:Nat} {o:c7} (hi:id=0∨k≤id):rG k N (N.set id o):=fun j h0 h1=>by rw[aG.get_set,if_neg (by omega)]
theorem rG.drop {k:Nat} {N:aG} {id:Nat} (hi:k≤id):rG k N (N.drop id):=fun j h0 h1=>by rw[aG.get_drop,if_neg (by omega)]
def P7 (N N':aG):Prop:=N.next≤N'.next∧∀id,id < N.next→N'.get id=N.get id
theorem P7.refl (N:aG):P7 N N:=⟨Nat.le_refl _,fun _ _=>rfl⟩
theorem P7.push {N:aG} {o:c7}:P7 N (N.push o):=⟨Nat.le_succ _,fun id h=>by rw[aG.get_push,if_neg (by omega)]⟩
theorem gM {M:aG} {o:c7}:(M.push o).get M.next=some o:=by rw[aG.get_push,if_pos rfl]
theorem cM {M:aG} {id:Nat} {o:c7}:(M.set id o).get id=some o:=by rw[aG.get_set,if_pos rfl]
theorem a3g.kept {k k':Nat} {N N':aG} {x:AV} {ch:List Int} (h:a3g k N x ch) (g:rG k N N') (hk:k≤k'):a3g k' N' x ch:=by
 rcases h with h|⟨id,cap,cells,h1,h2,h3,h4,h5⟩
 ·exact .inl h
 ·exact .inr ⟨id,cap,cells,h1,h2,Nat.lt_of_lt_of_le h3 hk,(g id h2 h3).trans h4,h5⟩
theorem O4.kept {k k':Nat} {N N':aG} {x:AV} {c:Ch} (h:O4 k N x c) (g:rG k N N') (hk:k≤k'):O4 k' N' x c:=by
 obtain⟨y,h1,h2⟩:=h
 exact⟨y,h1,h2.kept g hk⟩
def a7w (k:Nat) (N:aG) (ml:List (aD×AV)) (mc:List (aD×Ch)):Prop:=qB (fun p q=>p.1=q.1∧O4 k N p.2 q.2) ml mc
theorem a7w.kept {k k':Nat} {N N':aG} {ml:List (aD×AV)} {mc:List (aD×Ch)} (h:a7w k N ml mc) (g:rG k N N') (hk:k≤k'):a7w k' N' ml mc:=h.mono fun a b ⟨h1,h2⟩=>⟨h1,h2.kept g hk⟩
end Go.Proofs.YteliblifgdofgaaGreatDoor
namespace Go.Ab
open Go.RowKit
section
variable {P:Program} {τ:Tab} {ops:Array Oper} {cls:Nat→fQ} {Q:AX→AF→aG→Prop} {ds:List bJ} {ls:List Nat} {i:Nat} {t:List (Nat×AV)} {M:aG}
def ldO (τ:Tab) (ty:TypeId) (off:Nat) (l:List AV):Option AV:=
 match aJ τ ty with
 |some ti=>if ti.agg=true then (if off+ti.size≤l.length then some (.agg ((l.drop off).take ti.size)) else none) else l[off]?
 |none=>none
def OO (τ:Tab) (ops:Array Oper) (cls:Nat→fQ) (ds:List bJ) (i:Nat) (t:List (Nat×AV)) (l:List AV):Option (Nat×Nat×AV):=
 match ops[i]? with
 |some o=>
  match aT ops ⟨t,ds⟩ o,o.dst,pG (cls i),o.op with
  |some true,some d,true,.load ty x=>(match AF.ev ⟨t,ds⟩ x with
   |.ptr id off=>(match ldO τ ty off l with
    |some y=>(match y.force with|some z=>some (d,id,z)|none=>none)
    |none=>none)
   |_=>none)
  |_,_,_,_=>none
 |none=>none
theorem oI (hτ:TabOK P τ) {id:Nat} {l:List AV} (hM:M.get id=some (.cells l)) {d:Nat} {y:AV} (hs:OO τ ops cls ds i t l=some (d,id,y)) (h:DW P ops cls Q ds ls ((d,y)::t) M):DW P ops cls Q ds (i::ls) t M:=by
 unfold OO at hs
 split at hs
 ·rename_i o hi
  split at hs
  ·rename_i d' ty x hw hd hc ho
   split at hs
   ·rename_i id' off hx
    split at hs
    ·rename_i y' hl
     split at hs
     ·rename_i z hz
      cases hs
      refine jY hi hw hd hc ?_ h
      rw[ho]
      refine GH hτ ?_
      rw[hx]
      unfold cX
      simp only[hM]
      rw[←AV.force_spec hz,←hl]
      unfold ldO
      cases aJ τ ty<;>rfl
     ·cases hs
    ·cases hs
   ·cases hs
  ·cases hs
 ·cases hs
def Q5 (τ:Tab) (ops:Array Oper) (cls:Nat→fQ) (ds:List bJ) (i:Nat) (t:List (Nat×AV)) (l:List AV):Option (Nat×List AV):=
 match ops[i]? with
 |some o=>
  match aT ops ⟨t,ds⟩ o,o.dst,n7 (cls i),o.op with
  |some true,none,true,.store ty x y=>(match AF.ev ⟨t,ds⟩ x,aJ τ ty with
   |.ptr id off,some ti=>(match decide ((AF.ev ⟨t,ds⟩ y).solid=true∧(AF.ev ⟨t,ds⟩ y).cells.length=ti.size∧off+ti.size≤l.length),nU (b9 l off (AF.ev ⟨t,ds⟩ y).cells) with
    |true,some l'=>some (id,l')
    |_,_=>none)
   |_,_=>none)
  |_,_,_,_=>none
 |none=>none
theorem jW (hτ:TabOK P τ) {id:Nat} {l:List AV} (hM:M.get id=some (.cells l)) {l':List AV} (hs:Q5 τ ops cls ds i t l=some (id,l')) (h:DW P ops cls Q ds ls t (M.set id (.cells l'))):DW P ops cls Q ds (i::ls) t M:=by
 unfold Q5 at hs
 split at hs
 ·rename_i o hi
  split at hs
  ·rename_i ty x y hw hd hc ho
   split at hs
   ·rename_i id' off ti hx ht
    split at hs
    ·rename_i l2 hb hl
     cases hs
     obtain⟨h1,h2,h3⟩:=of_decide_eq_true hb
     have:=j6 hl
     subst this
     exact EM hi hw hd hc (by rw[ho];exact uR hτ ht hx hM h1 h2 h3) h
    ·cases hs
   ·cases hs
  ·cases hs
 ·cases hs
end
end Go.Ab
namespace Go.Proofs.YteliblifgdofgaaGreatDoor
open Go.Proofs Go.Shelf
def X3:Go.Shelf.Ren:=⟨fun|6=>307|14=>325|15=>190|20=>331|21=>332|22=>333|23=>334|24=>335|25=>336|26=>337|27=>338|28=>250|29=>251|46=>343|47=>292|48=>293|49=>344|50=>345|57=>346|n=>n,fun|0=>0|3=>3|4=>4|5=>5|9=>9|22=>77|24=>295|25=>359|39=>252|45=>305|46=>306|50=>232|53=>312|55=>314|66=>346|70=>350|76=>370|77=>371|n=>n,fun|n=>n⟩
theorem R9:SlLaysF0.n6 Tryz.prog X3:={
 mixed:=by kernel_rfl
 f6:=⟨Tryz.f307.name,by kernel_rfl,Tryz.func307.trans (congrArg some (by kernel_rfl))⟩
 f14:=⟨Tryz.f325.name,by kernel_rfl,Tryz.func325.trans (congrArg some (by kernel_rfl))⟩
 f15:=Tryz.func190.trans (congrArg some (by kernel_rfl))
 f20:=⟨Tryz.f331.name,by kernel_rfl,Tryz.func331.trans (congrArg some (by kernel_rfl))⟩
 f21:=⟨Tryz.f332.name,by kernel_rfl,Tryz.func332.trans (congrArg some (by kernel_rfl))⟩
 f22:=⟨Tryz.f333.name,by kernel_rfl,Tryz.func333.trans (congrArg some (by kernel_rfl))⟩
 f23:=⟨Tryz.f334.name,by kernel_rfl,Tryz.func334.trans (congrArg some (by kernel_rfl))⟩
 f24:=⟨Tryz.f335.name,by kernel_rfl,Tryz.func335.trans (congrArg some (by kernel_rfl))⟩
 f25:=⟨Tryz.f336.name,by kernel_rfl,Tryz.func336.trans (congrArg some (by kernel_rfl))⟩
 f26:=⟨Tryz.f337.name,by kernel_rfl,Tryz.func337.trans (congrArg some (by kernel_rfl))⟩
 f27:=⟨Tryz.f338.name,by kernel_rfl,Tryz.func338.trans (congrArg some (by kernel_rfl))⟩
 f28:=Tryz.func250.trans (congrArg some (by kernel_rfl))
 f29:=Tryz.func251.trans (congrArg some (by kernel_rfl))
 f46:=⟨Tryz.f343.name,by kernel_rfl,Tryz.func343.trans (congrArg some (by kernel_rfl))⟩
 f47:=Tryz.func292.trans (congrArg some (by kernel_rfl))
 f48:=Tryz.func293.trans (congrArg some (by kernel_rfl))
 f49:=⟨Tryz.f344.name,by kernel_rfl,Tryz.func344.trans (congrArg some (by kernel_rfl))⟩
 f50:=⟨Tryz.f345.name,by kernel_rfl,Tryz.func345.trans (congrArg some (by kernel_rfl))⟩
 f57:=⟨Tryz.f346.name,by kernel_rfl,Tryz.func346.trans (congrArg some (by kernel_rfl))⟩
 t0:=Tryz.underlying0
 a0:=Tryz.isAgg0
 z0:=Tryz.sizeOf0
 v0:=Tryz.zeroValue0
 t3:=Tryz.underlying3
 a3:=Tryz.isAgg3
 z3:=Tryz.sizeOf3
 v3:=Tryz.zeroValue3
 t4:=Tryz.underlying4
 a4:=Tryz.isAgg4
 z4:=Tryz.sizeOf4
 v4:=Tryz.zeroValue4
 t5:=Tryz.underlying5
 a5:=Tryz.isAgg5
 z5:=Tryz.sizeOf5
 v5:=Tryz.zeroValue5
 t9:=Tryz.underlying9
 a9:=Tryz.isAgg9
 z9:=Tryz.sizeOf9
 v9:=Tryz.zeroValue9
 t22:=Tryz.underlying77
 a22:=Tryz.isAgg77
 z22:=Tryz.sizeOf77
 v22:=Tryz.zeroValue77
 t25:=Tryz.underlying359
 a25:=Tryz.isAgg359
 z25:=Tryz.sizeOf359
 v25:=Tryz.zeroValue359
 t39:=Tryz.underlying252
 a39:=Tryz.isAgg252
 z39:=Tryz.sizeOf252
 v39:=Tryz.zeroValue252
 t45:=Tryz.underlying305
 a45:=Tryz.isAgg305
 z45:=Tryz.sizeOf305
 v45:=Tryz.zeroValue305
 t46:=Tryz.underlying306
 a46:=Tryz.isAgg306
 z46:=Tryz.sizeOf306
 v46:=Tryz.zeroValue306
 t50:=Tryz.underlying232
 a50:=Tryz.isAgg232
 z50:=Tryz.sizeOf232
 v50:=Tryz.zeroValue232
 t53:=Tryz.underlying312
 a53:=Tryz.isAgg312
 z53:=Tryz.sizeOf312
 v53:=Tryz.zeroValue312
 t55:=Tryz.underlying314
 a55:=Tryz.isAgg314
 z55:=Tryz.sizeOf314
 v55:=Tryz.zeroValue314
 t66:=Tryz.underlying346
 a66:=Tryz.isAgg346
 z66:=Tryz.sizeOf346
 v66:=Tryz.zeroValue346
 t70:=Tryz.underlying350
 a70:=Tryz.isAgg350
 z70:=Tryz.sizeOf350
 v70:=Tryz.zeroValue350
 t76:=Tryz.underlying370
 a76:=Tryz.isAgg370
 z76:=Tryz.sizeOf370
 v76:=Tryz.zeroValue370
 t77:=Tryz.underlying371
 a77:=Tryz.isAgg371
 z77:=Tryz.sizeOf371
 v77:=Tryz.zeroValue371}
end Go.Proofs.YteliblifgdofgaaGreatDoor
namespace Go.Proofs.YteliblifgdofgaaGreatDoor
open Go.Ab Go.Shelf Go.RowKit Go.Lib Go.Sort
theorem g8 {N:aG} {it j:Nat} {I Z C:c7} (h:j < N.next):(((N.set it I).push Z).set N.next C).get j=if j=it then some I else N.get j:=by
 rw[aG.get_set,if_neg (by omega),aG.get_push,if_neg (by show ¬j=N.next;omega),aG.get_set]
theorem uG {N:aG} {it j:Nat} {I Z C L:c7} (h:j < N.next):((((N.set it I).push Z).set N.next C).push L).get j=if j=it then some I else N.get j:=by
 rw[aG.get_push,if_neg (by show ¬j=N.next+1;omega),g8 h]
end Go.Proofs.YteliblifgdofgaaGreatDoor
namespace Go.Proofs.YteliblifgdofgaaGreatDoor
open Go.Ab
theorem s8 {P:Program} {g:FuncId} {args:List AV} {y:AV} (ha:∀x,x∈args→aN x) (hy:aN y) (h:aQ P g args ⟨0,[]⟩ fun e N=>∃x,e=.ret x∧eU 0 N x y∧0≤N.next∧gE 0 N []):aO P g args y:=
 aU ha hy ((aQ.cutV (M:=⟨0,[]⟩) (l:=[]) h).mono fun e N ⟨h1,_⟩=>⟨y,h1,aI.of_closed hy⟩)
theorem TV {k:Nat} (hk:0 < k) (l:List aD) (x y:aD) (g:Nat):aI k (.sl 1 (l.map AV.str++[.str x,.str y]) (.tok 0 g)) (vR (l++[x,y]) (.tok 0 g)):=by
 unfold vR
 rw[Y3]
 exact aI.tok (decide_eq_true hk) (by
  intro z hz c hc
  have:∃s,z=.str s:=by
   rcases List.mem_append.1 hz with hz|hz
   ·obtain⟨s,_,rfl⟩:=List.mem_map.1 hz
    exact⟨s,rfl⟩
   ·simp at hz
    rcases hz with rfl|rfl<;>exact⟨_,rfl⟩
  obtain⟨s,rfl⟩:=this
  exact aX aP c hc)
def pcF (l:List Ch) (tg:eE) (i g:Nat):AF:=⟨[(4,vR (fO (l.take i)) (.tok 0 g)),(12,mU l tg),(13,.int .i64 (l.length:Int)),(14,.int .i64 (i:Int))],[]⟩
theorem a35 (l:List Ch) (tg:eE) (htg:tg=.none∨tg=.full) (hl:l.length < 1000000) (hs:∀c,c∈l→gP c):aO Tryz.prog 58 [mU l tg] (pcA (xI l)):=by
 refine aU (aX (gQ l htg)) (qN _) ?_
 refine aC aF Tryz.func58 rfl (by decide) (by simp[Tryz.f58]) ?_
 have la:=bA Ch.av l
 have kb:=yB l tg hl hs
 have hcc:=gQ l htg
 unfold mU at*
 cases h:d8 l
 ·rw[h] at kb
  rw[a11 h]
  repeat' (first|refine zA rfl ?_|refine aA ?_|refine aL rfl ?_|refine aH rfl kb ?_)
  exact⟨rfl,_,rfl,_,rfl,aI.of_closed (qN ([],1))⟩
 ·rw[h] at kb
  rw[YR h]
  obtain⟨_,h20,hm,_⟩:=kG h
  have hT:=LI hm
  repeat' (first|refine zI rfl la ?_|refine zA rfl ?_|refine aA ?_|refine aL rfl ?_|refine aH rfl kb ?_)
  refine bC l.length (fun i f N=>∃g,N=tokM g∧f=pcF l tg i g) (Nat.zero_le _) ⟨0,rfl,rfl⟩ ((aR.tok 4 rfl (sz':=1) (.inr rfl)).trans (aR.le ?_ (fF rfl rfl))) ?_
  ·unfold pcF vR fO mU
   repeat (refine AF.le_cons rfl ?_)
   exact AF.le_nil rfl
  rintro i f N hi ⟨g,rfl,rfl⟩
  unfold pcF vR mU
  have lr:=bA AV.str (fO (l.take i))
  have lr2:=nR (l.take i)
  rw[List.length_take] at lr2
  by_cases g1:i < l.length
  ·have d1:decide ((i:Int) < (l.length:Int))=true:=decide_eq_true (by omega)
   have hx:l[i]? =some l[i]:=List.getElem?_eq_getElem g1
   have fi:=aZ (i:=i) (by omega)
   have ht:=bM hx
   have hmm:=List.getElem_mem g1
   generalize l[i]=x at hx ht hmm
   have kv:=HR x.meta_ x.gone (hs x hmm).2
   have e0:FK (cL x.meta_ x.gone)=.tup [.str (cL x.meta_ x.gone).1,.int .i64 0]:=by unfold FK;rw[BK (hm x hmm)]
   rw[e0] at kv
   have eC:fO (l.take (i+1))=fO (l.take i)++[x.path,(cL x.meta_ x.gone).1]:=by rw[ht,XT];rfl
   repeat' (first|refine zB rfl d1 ?_|refine zI rfl fi ?_|refine zA rfl ?_|refine aA ?_|refine aL rfl ?_|refine aH rfl kv ?_|refine zX rfl (fB hx) ?_|refine zR rfl ?_|refine zP rfl rfl ?_)
   refine⟨g1,pcF l tg (i+1) (g+1),tokM (g+1),⟨g+1,rfl,rfl⟩,aR.cut (k:=1) (t:=(pcF l tg (i+1) (g+1)).t) (l:=(tokM (g+1)).objs) (Nat.zero_le 1) (by show 1≤2;omega) rfl ⟨?_,?_,?_,?_,trivial⟩ ⟨by decide,rfl,trivial⟩⟩
   ·rw[eC]
    exact TV (by decide) _ _ _ _
   ·exact aI.of_closed hcc
   ·exact aI.of_closed aB
   ·exact aI.of_closed aB
  ·have d1:decide ((i:Int) < (l.length:Int))=false:=decide_eq_false (by omega)
   obtain rfl:i=l.length:=by omega
   rw[List.take_length] at lr2 lr ⊢
   have kr:=(a2n (fO l) .none (.inl rfl) (by omega) (fun t ht=>by have:=hT t ht;omega)).sub (args:=[.sl 1 ((fO l).map AV.str) (.tok 0 g)]) ⟨Sub.untag,trivial⟩
   have hcl:=qN (i6 (fO l))
   generalize i6 (fO l)=z at*
   repeat' (first|refine zB rfl d1 ?_|refine zA rfl ?_|refine aA ?_|refine aL rfl ?_|refine aH rfl kr ?_)
   exact⟨rfl,_,rfl,_,rfl,aI.of_closed hcl⟩
def tI:List (aD×aD)→List aD
 |[]=>[]
 |p::r=>p.1::p.2::tI r
theorem sI:∀m:List (aD×aD),(tI m).length=2*m.length
 |[]=>rfl
 |p::r=>by
  have:=sI r
  simp only[tI,List.length_cons,this]
  omega
theorem Y0:∀(n:Nat) (l:List aD),l.length=2*n→∃m,l=tI m
 |0,[],_=>⟨[],rfl⟩
 |n+1,a::b::r,h=>by
  obtain⟨m,rfl⟩:=Y0 n r (by simp at h;omega)
  exact⟨(a,b)::m,rfl⟩
 |0,_::_,h=>by simp at h
 |n+1,[],h=>by simp at h
 |n+1,[_],h=>by simp at h;omega
theorem OR:∀(m:List (aD×aD)) (j:Nat) {x:aD×aD},m[j]? =some x→(tI m)[2*j]? =some x.1∧(tI m)[2*j+1]? =some x.2
 |[],j,x,h=>by simp at h
 |p::r,0,x,h=>by
  cases h
  exact⟨rfl,rfl⟩
 |p::r,j+1,x,h=>by
  obtain⟨h1,h2⟩:=OR r j (by simpa using h)
  have e:2*(j+1)=2*j+1+1:=by omega
  rw[e]
  exact⟨h1,h2⟩
theorem PS {m:List (aD×aD)} {x:aD×aD} (h:x∈m):x.1∈tI m∧x.2∈tI m:=by
 obtain⟨j,hj⟩:=List.mem_iff_getElem?.1 h
 obtain⟨h1,h2⟩:=OR m j hj
 exact⟨List.mem_of_getElem? h1,List.mem_of_getElem? h2⟩
def oF (p:aD×aD):Ch:=⟨p.1,(bY p.2).2.1,(bY p.2).1⟩
theorem JJ:∀m:List (aD×aD),(∀x,x∈m→(bY x.2).2.2=0)→rQ (tI m)=some (m.map oF)
 |[],_=>rfl
 |p::r,h=>by
  have ih:=JJ r (fun x hx=>h x (by simp[hx]))
  show rQ (p.1::p.2::tI r)=_
  unfold rQ
  rw[if_pos (h p (by simp)),ih]
  rfl
theorem HH:∀{m:List (aD×aD)} {x:aD×aD},x∈m→(bY x.2).2.2≠0→rQ (tI m)=none
 |p::r,x,hx,h=>by
  show rQ (p.1::p.2::tI r)=_
  unfold rQ
  by_cases h0:(bY p.2).2.2=0
  ·rw[if_pos h0]
   rcases List.mem_cons.1 hx with rfl|hx
   ·exact absurd h0 h
   ·rw[HH hx h]
  ·rw[if_neg h0]
def gcA:Option (List Ch)→AV
 |some l=>nmA (l,0)
 |none=>nmA ([],30)
theorem LF (x:Option (List Ch)):aN (gcA x):=by
 cases x<;>exact KZ _
theorem oN {k:Nat}:aI k (.tup [.sl 0 [] .full,.int .i64 30]) (gcA none):=aI.tup2 aI.nil (aI.of_closed aB)
theorem aB2 (n:Nat) (h:n < 1000000):IntKind.wrap .i64 (Int.tmod (n:Int) 2)=((n%2:Nat):Int):=by
 have e:Int.tmod (n:Int) 2=((n%2:Nat):Int):=rfl
 rw[e]
 exact Go.Ab.wrap_small (by omega) (by omega)
theorem WN {s:aD} (h:mW s=none):mG s=none:=by
 unfold mG
 rw[h]
theorem ID {s r:aD} {l:List aD} (h:mW s=some (l,r)) (h2:¬(r=[]∧l.length%2=0)):mG s=none:=by
 unfold mG
 rw[h]
 show (if _ then _ else _)=_
 rw[if_neg h2]
def aBm:Option (List Ch)→Option (List Ch)
 |none=>none
 |some m=>if d8 m=true then some m else none
theorem H0 {s:aD} {m:List (aD×aD)} (h:mW s=some (tI m,[])):mG s=aBm (rQ (tI m)):=by
 unfold mG
 rw[h]
 show (if _ then _ else _)=_
 rw[if_pos ⟨rfl,by rw[sI];omega⟩]
 cases rQ (tI m)<;>rfl
theorem Y8 {s:aD} {m:List (aD×aD)} {x:aD×aD} (h:mW s=some (tI m,[])) (hx:x∈m) (h0:(bY x.2).2.2≠0):mG s=none:=by
 rw[H0 h,HH hx h0]
 rfl
theorem JO {s:aD} {m:List (aD×aD)} (h:mW s=some (tI m,[])) (h0:∀x,x∈m→(bY x.2).2.2=0):mG s=if d8 (m.map oF)=true then some (m.map oF) else none:=by
 rw[H0 h,JJ m h0]
 rfl
theorem O7 {s:aD} {m:List (aD×aD)} (h:mW s=some (tI m,[])) (h0:∀x,x∈m→(bY x.2).2.2=0) (hb:d8 (m.map oF)=false):mG s=none:=by
 rw[JO h h0,if_neg (by simp[hb])]
theorem UX {s:aD} {m:List (aD×aD)} (h:mW s=some (tI m,[])) (h0:∀x,x∈m→(bY x.2).2.2=0) (hb:d8 (m.map oF)=true):mG s=some (m.map oF):=by
 rw[JO h h0,if_pos hb]
theorem NT {p:aD×aD} (h1:p.1.length≤4000) (h2:(bY p.2).2.2=0):gP (oF p):=by
 have h3:=(CN h2).2
 unfold pT at h3
 simp only[Bool.and_eq_true,decide_eq_true_eq] at h3
 exact⟨by show p.1.length < 1000000;omega,by show (bY p.2).1.ch.length < 1000000;omega⟩
theorem a8x (L:List (aD×aD)) (x:aD×aD) {id g:Nat}:AV.sl 5 (((L++[x]).map oF).map Ch.av) (.tok id g)=.sl 5 ((L.map oF).map Ch.av++[(oF x).av]) (.tok id g):=by simp
end Go.Proofs.YteliblifgdofgaaGreatDoor
namespace Go.Ab
open Go.RowKit
def TC (P:Program) (gf:FuncId) (lb:List AV) {α:Type} (enc:α→List AV) (ok:List α→α→Prop) (out:List α):Prop:=
 ∀(y:Nat) (J:List α→aG→Prop) (B:aG→Prop) (M:aG),(∀L N,J L N→∃o vs t,N.get y=some (.raw none o vs t))→
  (∀L x N,J L N→ok L x→fH P y (enc x) N fun e N'=>(e=.ret (.bool true)∧J (L++[x]) N')∨(e=.ret (.bool false)∧B N'))→J [] M→
  aQ P gf (.yld y::lb) M fun e N=>e=.ret (.tup [])∧(J out N∨B N)
theorem V9 {P:Program} {n:Nat} {g:Operand} {ps:Array Tmp} {assign body:Code} {Q:AX→AF→aG→Prop} {f:AF} {M:aG} {gf:FuncId} {lb:List AV} {α:Type} {enc:α→List AV} {ok:List α→α→Prop} {out:List α}
  (hg:f.ev g=.fn (.func gf) [] lb) (hit:TC P gf lb enc ok out) (K:c7→List α→aG→Prop) (S:aG→Prop) (hps:∀x,ps.toList.length=(enc x).length) (hpn:(ps.toList.all fun p=>decide (p < n))=true)
  (hK:∀O L N,K O L N→N.get (M.next+1)=some O) (h0:∀O,K O [] ⟨M.next+2,(M.next+1,O)::(M.next,kL)::M.objs⟩)
  (hround:∀(O O1:c7) (L:List α) (x:α) (N:aG) (l:Nat),K O L N→ok L x→
   W (some l) P n assign (sK (fun f1 M1=>M1.get (M.next+1)=some O∧W (some l) P n body (fun e _ N'=>N'.get (M.next+1)=some O1∧((e=.normal∧K O (L++[x]) (N'.set (M.next+1) O))∨(e=.ret∧S N'))) f1 (M1.set (M.next+1) O1)) (fun _ _ _=>False)) ⟨J3 ps.toList (enc x) f.t,[]⟩ N)
  (hdone:∀O N,K O out N→∃N',N'.le N∧N'.get (M.next+1)=none∧Q .normal ⟨f.t,mR M.next::f.d⟩ N')
  (hleft:∀O N,S N→∃N',N'.le (N.set (M.next+1) O)∧N'.get (M.next+1)=none∧Q .ret ⟨f.t,mR M.next::f.d⟩ N'):
  W none P n (.rangeFunc g ps assign body) Q f M:=by
 refine DY hg fun fn tmps D hn=>?_
 refine (hit (M.next+1) (fun L N=>K (.raw none (.loop (eO fn tmps ps assign body D .ready none)) tmps f.t) L N) (fun N=>∃N0,S N0∧N=N0.set (M.next+1) (.raw none (.loop (eO fn tmps ps assign body D .done (some .ret))) tmps f.t)) _ (fun L N h=>⟨_,_,_,hK _ _ _ h⟩) ?_ (h0 _)).mono ?_
 ·intro L x N hJ hok
  refine qT (hK _ _ _ hJ) hn (hps x) hpn fun l=>?_
  refine (hround _ (.raw none (.loop (eO fn tmps ps assign body D .busy none)) tmps f.t) L x N l hJ hok).mono ?_
  rintro x1 f1 M1 h1
  cases x1 with
  |normal=>
   refine⟨h1.1,h1.2.mono ?_⟩
   rintro x2 f2 M2 ⟨h3,h4⟩
   rcases h4 with ⟨rfl,h4⟩|⟨rfl,h4⟩
   ·exact⟨h3,.inl ⟨rfl,h4⟩⟩
   ·exact⟨h3,.inr ⟨rfl,_,h4,rfl⟩⟩
  |exit id=>exact h1.elim
  |ret=>exact h1.elim
  |panic v=>exact h1.elim
 ·rintro e N ⟨rfl,hJ⟩
  rcases hJ with hJ|⟨N0,hS,rfl⟩
  ·obtain⟨N',h1,h2,h3⟩:=hdone _ N hJ
   exact⟨.ready,none,N',by simp,hK _ _ _ hJ,h1,h2,h3⟩
  ·obtain⟨N',h1,h2,h3⟩:=hleft _ N0 hS
   refine⟨.done,some .ret,N',by simp,?_,h1,h2,h3⟩
   rw[aG.get_set,if_pos rfl]
theorem aG.drop_le {N:aG} {id:Nat}:(N.drop id).le N:=⟨rfl,fun i o h=>by
 rw[aG.get_drop] at h
 split at h
 ·cases h
 ·exact h⟩
end Go.Ab
