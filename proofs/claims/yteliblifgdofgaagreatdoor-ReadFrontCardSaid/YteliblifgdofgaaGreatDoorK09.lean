/- Parts of the proof, one behind the other. No further condition. -/
import Derived.Test.YteliblifgdofgaaGreatDoorK07
import Derived.Test.YteliblifgdofgaaGreatDoorK08
import Derived.Test.YteliblifgdofgaaGreatDoorK04
import Derived.Test.YteliblifgdofgaaGreatDoorChecked
import Derived.Test.YteliblifgdofgaaGreatDoorK06
import Derived.Shelf.Strings.IndexAnyAll
import Derived.Shelf.Small.Utf8
import Derived.Shelf.RegionOpenPlain
import Derived.Laws.RangeAny
import Derived.WalkMore
import Derived.Lib.OthersKept
set_option linter.unusedVariables false
set_option linter.unusedSimpArgs false
set_option maxRecDepth 100000
set_option maxHeartbeats 8000000
namespace Go.Ab
open Go.RowKit
def a4p (r:Option Nat) (P:Program) (n:Nat) (c:Code) (Q:AX→AF→aG→Prop) (f:AF) (M:aG):Option Prop:=
 match c with
 |.seq c d=>some (W r P n c (sK (fun f M=>W r P n d Q f M) Q) f M)
 |.region _ ops false=>(match f with
  |⟨t,ds⟩=>match (ops.toList.all fun o=>jB ds o n) with
   |true=>some (DW P ops (fun _=>.Y) Q ds (List.range' 0 ops.toList.length) t M)
   |false=>none)
 |.block id c=>some (W r P n c (N5 id Q) f M)
 |.skip=>some (Q .normal f M)
 |.exit id=>some (Q (.exit id) f M)
 |.ret=>some (Q .ret f M)
 |.scope c=>(match r with|none=>some (W none P n c Q f M)|some _=>none)
 |.label _=>some (Q .normal f M)
 |.cond c d e=>(match f.ev c with
  |.bool true=>some (W r P n d Q f M)
  |.bool false=>some (W r P n e Q f M)
  |_=>none)
 |_=>none
theorem aL {r:Option Nat} {P:Program} {n:Nat} {c:Code} {Q:AX→AF→aG→Prop} {f:AF} {M:aG} {G:Prop} (hs:a4p r P n c Q f M=some G) (h:G):W r P n c Q f M:=by
 unfold a4p at hs
 split at hs<;>try (cases hs;done)
 ·cases hs;exact aA9 h
 ·rename_i id ops
  obtain⟨t,ds⟩:=f
  simp only at hs
  split at hs
  ·rename_i hd
   cases hs
   exact a6e hd (fun _ _ _ h=>h) h
  ·cases hs
 ·cases hs;exact a1g h
 ·cases hs;exact a6i h
 ·cases hs;exact a5v h
 ·cases hs;exact aA7 h
 ·split at hs
  ·cases hs;exact a07 h
  ·cases hs
 ·cases hs;exact a2a h
 ·split at hs
  ·rename_i hc;cases hs;exact a6l hc h
  ·rename_i hc;cases hs;exact a01 hc h
  ·cases hs
section
variable {P:Program} {τ:Tab} {ops:Array Oper} {cls:Nat→fQ} {Q:AX→AF→aG→Prop} {ds:List bJ} {ls:List Nat} {i:Nat} {o:Oper} {t:List (Nat×AV)} {M:aG}
def a4l (τ:Tab) (ds:List bJ) (t:List (Nat×AV)) (M:aG) (d:Nat) (ty tx:TypeId) (s y:Operand):Option (List (Nat×AV)×aG×Nat×Nat×Nat×Nat):=
 match AF.ev ⟨t,ds⟩ s with
 |.sl sz xs (.tok id g)=>
  match M.get id,aJ τ ty,aJ τ tx with
  |some (.spare g'),some ti,some xi=>
   match ti.k with
   |.slice e=>
    match aJ τ e with
    |some ei=>
     match decide (0 < ei.size),eG xi.k (AF.ev ⟨t,ds⟩ y),decide (sz=ei.size),iI ei.size (AF.ev ⟨t,ds⟩ y) with
     |true,true,true,some ys=>some ((d,.sl ei.size (xs++ys) (.tok id (g+1)))::t,M.set id (.spare (g+1)),(xs.length+ys.length)*ei.bytes,xs.length+ys.length,g',g)
     |_,_,_,_=>none
    |none=>none
   |_=>none
  |_,_,_=>none
 |_=>none
def DU (τ:Tab) (ops:Array Oper) (cls:Nat→fQ) (ds:List bJ) (i:Nat) (t:List (Nat×AV)) (M:aG):Option (List (Nat×AV)×aG×Nat×Nat×Nat×Nat):=
 match ops[i]? with
 |some o=>
  match aT ops ⟨t,ds⟩ o,o.dst,n7 (cls i),o.op with
  |some true,some d,true,.call {callee:=.builtin .append,args:=⟨[s,y]⟩,argTypes:=⟨[ty,tx]⟩}=>a4l τ ds t M d ty tx s y
  |_,_,_,_=>none
 |none=>none
theorem a83 (hτ:TabOK P τ) {t':List (Nat×AV)} {M':aG} {nb nl g1 g2:Nat} (hs:DU τ ops cls ds i t M=some (t',M',nb,nl,g1,g2)) (hgg:g1=g2) (hb:nb≤140737488355328) (hl:nl≤140737488355328) (h:DW P ops cls Q ds ls t' M'):DW P ops cls Q ds (i::ls) t M:=by
 unfold DU at hs
 split at hs
 ·rename_i o hi
  split at hs
  ·rename_i d s y ty tx hw hd hc ho
   unfold a4l at hs
   split at hs
   ·rename_i sz xs id g hS
    split at hs
    ·rename_i g' ti xi hM ht hxi
     split at hs
     ·rename_i e hk
      split at hs
      ·rename_i ei he
       split at hs
       ·rename_i ys hp hf hsz hX
        cases hs
        subst hgg
        exact pX hτ hi hw hd ho hS hM ht hk he hp hxi hf hX hc (of_decide_eq_true hsz) hb hl h
       ·cases hs
      ·cases hs
     ·cases hs
    ·cases hs
   ·cases hs
  ·cases hs
 ·cases hs
def a4m (τ:Tab) (ds:List bJ) (t:List (Nat×AV)) (d:Nat) (ty:TypeId) (n:Nat) (ps:Array (Nat×Operand)):Option (List (Nat×AV)):=
 match aJ τ ty with
 |some ti=>
  match ti.k with
  |.slice e=>
   match aJ τ e with
   |some ei=>
    match decide (0 < ei.size),decide (ps.size=n),jZ ps.toList 0,i9 ei.size (ps.toList.map fun p=>AF.ev ⟨t,ds⟩ p.2),decide (n*ei.size≤16777216),nU (ps.toList.map fun p=>AF.ev ⟨t,ds⟩ p.2) with
    |true,true,true,true,true,some ys=>some ((d,.sl ei.size ys .full)::t)
    |_,_,_,_,_,_=>none
   |none=>none
  |_=>none
 |none=>none
def G3 (τ:Tab) (ops:Array Oper) (ds:List bJ) (i:Nat) (t:List (Nat×AV)):Option (List (Nat×AV)):=
 match ops[i]? with
 |some o=>
  match aT ops ⟨t,ds⟩ o,o.dst,o.op with
  |some true,some d,.buildSlice ty n ps=>a4m τ ds t d ty n ps
  |_,_,_=>none
 |none=>none
theorem a6o (hτ:TabOK P τ) {t':List (Nat×AV)} (hs:G3 τ ops ds i t=some t') (h:DW P ops cls Q ds ls t' M):DW P ops cls Q ds (i::ls) t M:=by
 unfold G3 at hs
 split at hs
 ·rename_i o hi
  split at hs
  ·rename_i d ty n ps hw hd ho
   unfold a4m at hs
   split at hs
   ·rename_i ti ht
    split at hs
    ·rename_i e hk
     split at hs
     ·rename_i ei he
      split at hs
      ·rename_i ys hp hn hidx hsz hbig hys
       cases hs
       exact a1q hτ hi hw hd ho ht hk he hp (of_decide_eq_true hn) hidx hsz hbig hys h
      ·cases hs
     ·cases hs
    ·cases hs
   ·cases hs
  ·cases hs
 ·cases hs
def a9v (τ:Tab) (ds:List bJ) (t:List (Nat×AV)) (ty:TypeId) (X I:Operand):Option (List AV×Int):=
 match AF.ev ⟨t,ds⟩ X,AF.ev ⟨t,ds⟩ I,aJ τ ty with
 |.sl sz xs _,.int _ n,some ti=>
  match ti.k with
  |.slice e=>
   match aJ τ e with
   |some ei=>(match decide (sz=ei.size) with|true=>some (xs,n)|false=>none)
   |none=>none
  |_=>none
 |_,_,_=>none
def NC (τ:Tab) (ops:Array Oper) (ds:List bJ) (i:Nat) (t:List (Nat×AV)):Option (Nat×List AV×Int):=
 match ops[i]? with
 |some o=>
  match aT ops ⟨t,ds⟩ o,o.dst,o.op with
  |some true,some d,.indexAddr ty X I=>(match a9v τ ds t ty X I with|some (xs,n)=>some (d,xs,n)|none=>none)
  |_,_,_=>none
 |none=>none
theorem a99 (hτ:TabOK P τ) {d:Nat} {xs:List AV} {n:Int} {x:AV} (hs:NC τ ops ds i t=some (d,xs,n)) (hx:0≤n∧xs[n.toNat]? =some x) (h:DW P ops cls Q ds ls ((d,.ref x.cells)::t) M):DW P ops cls Q ds (i::ls) t M:=by
 unfold NC at hs
 split at hs
 ·rename_i o hi
  split at hs
  ·rename_i d' ty X I hw hd ho
   split at hs
   ·rename_i xs' n' hix
    cases hs
    unfold a9v at hix
    split at hix
    ·rename_i sz xs2 tag k n2 ti hX hI ht
     split at hix
     ·rename_i e hk
      split at hix
      ·rename_i ei he
       split at hix
       ·rename_i hsz
        cases hix
        exact dG hτ hi hw hd ho hX hI ht hk he (of_decide_eq_true hsz) hx.1 hx.2 h
       ·cases hix
      ·cases hix
     ·cases hix
    ·cases hix
   ·cases hs
  ·cases hs
 ·cases hs
theorem fB {α:Type} {f:α→AV} {l:List α} {i:Nat} {y:α} (h:l[i]? =some y):0≤(i:Int)∧(l.map f)[((i:Int)).toNat]? =some (f y):=⟨Int.natCast_nonneg _,EW h⟩
def W0 (τ:Tab) (ops:Array Oper) (ds:List bJ) (i:Nat) (t:List (Nat×AV)):Option (Nat×List UInt8×Int):=
 match ops[i]? with
 |some o=>
  match aT ops ⟨t,ds⟩ o,o.dst,o.op with
  |some true,some d,.index ty X I=>
   (match AF.ev ⟨t,ds⟩ X,AF.ev ⟨t,ds⟩ I,aJ τ ty with
   |.str s,.int _ n,some ti=>(match ti.k with|.str=>some (d,s,n)|_=>none)
   |_,_,_=>none)
  |_,_,_=>none
 |none=>none
theorem wD (hτ:TabOK P τ) {d:Nat} {s:List UInt8} {n:Int} {c:UInt8} (hs:W0 τ ops ds i t=some (d,s,n)) (hx:0≤n∧s[n.toNat]? =some c) (h:DW P ops cls Q ds ls ((d,.int .u8 c.toNat)::t) M):DW P ops cls Q ds (i::ls) t M:=by
 unfold W0 at hs
 split at hs
 ·rename_i o hi
  split at hs
  ·rename_i d' ty X I hw hd ho
   split at hs
   ·rename_i s' k n' ti hX hI ht
    split at hs
    ·rename_i hk
     cases hs
     exact a0p hτ hi hw hd ho hX hI ht hk hx.1 hx.2 h
    ·cases hs
   ·cases hs
  ·cases hs
 ·cases hs
theorem byN {s:List UInt8} {i:Nat} {c:UInt8} (h:s[i]? =some c):0≤(i:Int)∧s[((i:Int)).toNat]? =some c:=⟨Int.natCast_nonneg _,h⟩
def C8 (τ:Tab) (es:List TypeId) (ops:Array Oper) (ds:List bJ) (i:Nat) (t:List (Nat×AV)):Option (Nat×AV):=
 match ops[i]? with
 |some o=>(match aT ops ⟨t,ds⟩ o,o.dst,uQ (tR τ es (AF.ev ⟨t,ds⟩) o.op) with
  |some true,some d,some x=>some (d,x)
  |_,_,_=>none)
 |none=>none
theorem yK {es:List TypeId} {d:Nat} {x:AV} (hs:C8 τ es ops ds i t=some (d,x)):∃o,ops[i]? =some o∧aT ops ⟨t,ds⟩ o=some true∧o.dst=some d∧uQ (tR τ es (AF.ev ⟨t,ds⟩) o.op)=some x:=by
 unfold C8 at hs
 split at hs
 ·rename_i o hi
  split at hs
  ·rename_i d' x' hw hd hx
   cases hs
   exact⟨o,hi,hw,hd,hx⟩
  ·cases hs
 ·cases hs
theorem aA8 {es:List TypeId} (hT:TabOK P τ∧pN P es) {d:Nat} {x y:Bool} (hs:C8 τ es ops ds i t=some (d,.bool x)) (hx:x=y) (h:DW P ops cls Q ds ls ((d,.bool y)::t) M):DW P ops cls Q ds (i::ls) t M:=by
 obtain⟨o,hi,hw,hd,ho⟩:=yK hs
 exact a9u hT hi hw hd ho (congrArg AV.bool hx) h
theorem a96 {es:List TypeId} (hT:TabOK P τ∧pN P es) {d:Nat} {k:IntKind} {x y:Int} (hs:C8 τ es ops ds i t=some (d,.int k x)) (hx:x=y) (h:DW P ops cls Q ds ls ((d,.int k y)::t) M):DW P ops cls Q ds (i::ls) t M:=by
 obtain⟨o,hi,hw,hd,ho⟩:=yK hs
 exact a9u hT hi hw hd ho (congrArg (AV.int k) hx) h
def CG (ops:Array Oper) (ds:List bJ) (i:Nat) (t:List (Nat×AV)):Option (Option Nat×FuncId×List AV):=
 match ops[i]? with
 |some o=>(match aT ops ⟨t,ds⟩ o,o.op with
  |some true,.call {callee:=.value y,args:=ags,argTypes:=_}=>(match AF.ev ⟨t,ds⟩ y with
   |.fn (.func g) fi ca=>some (o.dst,g,fi++ags.toList.map (AF.ev ⟨t,ds⟩)++ca)
   |_=>none)
  |_,_=>none)
 |none=>none
theorem qF {dst:Option Nat} {g:FuncId} {args:List AV} (hs:CG ops ds i t=some (dst,g,args)):∃o y ags ts fi ca,ops[i]? =some o∧aT ops ⟨t,ds⟩ o=some true∧o.dst=dst∧o.op=.call {callee:=.value y,args:=ags,argTypes:=ts}∧AF.ev ⟨t,ds⟩ y=.fn (.func g) fi ca∧args=fi++ags.toList.map (AF.ev ⟨t,ds⟩)++ca:=by
 unfold CG at hs
 split at hs
 ·rename_i o hi
  split at hs
  ·rename_i y ags ts hw ho
   split at hs
   ·rename_i g' fi ca hx
    cases hs
    exact⟨o,y,ags,ts,fi,ca,hi,hw,rfl,ho,hx,rfl⟩
   ·cases hs
  ·cases hs
 ·cases hs
theorem aH {d:Nat} {g:FuncId} {args:List AV} {x:AV} (hs:CG ops ds i t=some (some d,g,args)) (hc:aO P g args x) (h:DW P ops cls Q ds ls ((d,x)::t) M):DW P ops cls Q ds (i::ls) t M:=by
 obtain⟨o,y,ags,ts,fi,ca,hi,hw,hd,ho,hx,rfl⟩:=qF hs
 exact fG hi hw hd ho hx hc h
theorem bS {d:Nat} {g:FuncId} {args:List AV} {R:cH→aG→Prop} (hs:CG ops ds i t=some (some d,g,args)) (hc:n7 (cls i)=true) (hcall:aQ P g args M R)
  (h1:∀u M',R (.ret u) M'→DW P ops cls Q ds ls ((d,u)::t) M') (h2:∀u M',R (.pan u) M'→Q (.panic u) ⟨dD ds,ds⟩ M'):DW P ops cls Q ds (i::ls) t M:=by
 obtain⟨o,y,ags,ts,fi,ca,hi,hw,hd,ho,hx,rfl⟩:=qF hs
 exact FO hi hw hd ho hx hc hcall h1 h2
theorem a69 {g:FuncId} {args:List AV} {R:cH→aG→Prop} (hs:CG ops ds i t=some (none,g,args)) (hc:n7 (cls i)=true) (hcall:aQ P g args M R)
  (h1:∀u M',R (.ret u) M'→DW P ops cls Q ds ls t M') (h2:∀u M',R (.pan u) M'→Q (.panic u) ⟨dD ds,ds⟩ M'):DW P ops cls Q ds (i::ls) t M:=by
 obtain⟨o,y,ags,ts,fi,ca,hi,hw,hd,ho,hx,rfl⟩:=qF hs
 exact U6 hi hw hd ho hx hc hcall h1 h2
def TM (τ:Tab) (ops:Array Oper) (cls:Nat→fQ) (ds:List bJ) (i:Nat) (t:List (Nat×AV)) (M:aG) (d:Nat):Option (List (Nat×AV)×aG):=
 match ops[i]? with
 |some o=>(match aT ops ⟨t,ds⟩ o,decide (o.dst=some d),n7 (cls i),o.op with
  |some true,true,true,.box ty x=>(match yS (H5 τ (AF.ev ⟨t,ds⟩) M (.box ty x)) with|some (y,N)=>some ((d,y)::t,N)|none=>none)
  |_,_,_,_=>none)
 |none=>none
theorem iT (d:Nat) (hτ:TabOK P τ) {t':List (Nat×AV)} {M':aG} (hs:TM τ ops cls ds i t M d=some (t',M')) (h:DW P ops cls Q ds ls t' M'):DW P ops cls Q ds (i::ls) t M:=by
 unfold TM at hs
 split at hs
 ·rename_i o hi
  split at hs
  ·rename_i ty x hw hd hc ho
   split at hs
   ·rename_i y N hy
    cases hs
    exact aBe hτ hi hw (of_decide_eq_true hd) (by rw[ho];exact hy) hc h
   ·cases hs
  ·cases hs
 ·cases hs
theorem EJ (hτ:TabOK P τ) {ts e:TypeId} {ti:TI} (h:aJ τ ts=some ti) (hk:ti.k=.ptr e):P.underlying ts=some (.pointer (P.pointee ts)):=by
 obtain⟨f,dd,z,H⟩:=TI.spec hτ h
 have hf:=H.fits
 rw[hk] at hf
 have hu:=H.und
 cases dd<;>simp[TK.fits] at hf
 simp[Program.pointee,hu]
def YJ:BinOp→Bool
 |.eql|.neq=>true
 |_=>false
theorem qJ {b:BinOp} (h:YJ b=true):b=.eql∨b=.neq:=by cases b<;>simp[YJ] at h<;>simp
def a4r (c:fQ) (M:aG) (b:BinOp) (k:TK) (x y:AV):Option Bool:=
 match k,x,y with
 |.ptr _,.ref _,.nilptr=>some (rT b)
 |.ptr _,.nilptr,.nilptr=>some (!rT b)
 |.ptr _,.ptr id _,.nilptr=>(match pG c,M.get id with|true,some (.cells _)=>some (rT b)|_,_=>none)
 |_,_,_=>none
def ON (τ:Tab) (ops:Array Oper) (cls:Nat→fQ) (ds:List bJ) (i:Nat) (t:List (Nat×AV)) (M:aG):Option (Nat×Bool):=
 match ops[i]? with
 |some o=>(match aT ops ⟨t,ds⟩ o,o.dst,o.op with
  |some true,some d,.binOp b ts x y _=>(match YJ b,aJ τ ts with
   |true,some ti=>(match a4r (cls i) M b ti.k (AF.ev ⟨t,ds⟩ x) (AF.ev ⟨t,ds⟩ y) with|some r=>some (d,r)|none=>none)
   |_,_=>none)
  |_,_,_=>none)
 |none=>none
theorem wS (hτ:TabOK P τ) {d:Nat} {r:Bool} (hs:ON τ ops cls ds i t M=some (d,r)) (h:DW P ops cls Q ds ls ((d,.bool r)::t) M):DW P ops cls Q ds (i::ls) t M:=by
 unfold ON at hs
 split at hs
 ·rename_i o hi
  split at hs
  ·rename_i d' b ts x y yt hw hd ho
   split at hs
   ·rename_i ti hb ht
    split at hs
    ·rename_i r' hr
     cases hs
     unfold a4r at hr
     split at hr
     ·rename_i e c hx hk hxx hyy
      cases hr
      exact S0 hi hw hd ho (qJ hb) (EJ hτ ht hk) hxx hyy h
     ·rename_i e hk hxx hyy
      cases hr
      exact T3 hi hw hd ho (qJ hb) (EJ hτ ht hk) hxx hyy h
     ·rename_i e id off hk hxx hyy
      split at hr
      ·rename_i l hc hM
       cases hr
       exact RS hi hw hd ho (qJ hb) hc (EJ hτ ht hk) hxx hM hyy h
      ·cases hr
     ·cases hr
    ·cases hs
   ·cases hs
  ·cases hs
 ·cases hs
def UM (τ:Tab) (ds:List bJ) (t:List (Nat×AV)) (M:aG) (d:Nat) (ty tx:TypeId) (s y:Operand):Option (List (Nat×AV)×aG×Nat×Nat):=
 match AF.ev ⟨t,ds⟩ s with
 |.sl sz xs .full=>
  match aJ τ ty,aJ τ tx with
  |some ti,some xi=>
   match ti.k with
   |.slice e=>
    match aJ τ e with
    |some ei=>
     match decide (0 < ei.size),eG xi.k (AF.ev ⟨t,ds⟩ y),(decide (sz=ei.size)||xs.isEmpty),iI ei.size (AF.ev ⟨t,ds⟩ y) with
     |true,true,true,some ys=>some ((d,.sl ei.size (xs++ys) (.tok M.next 0))::t,M.push (.spare 0),(xs.length+ys.length)*ei.bytes,xs.length+ys.length)
     |_,_,_,_=>none
    |none=>none
   |_=>none
  |_,_=>none
 |_=>none
def xF (τ:Tab) (ops:Array Oper) (cls:Nat→fQ) (ds:List bJ) (i:Nat) (t:List (Nat×AV)) (M:aG):Option (List (Nat×AV)×aG×Nat×Nat):=
 match ops[i]? with
 |some o=>
  match aT ops ⟨t,ds⟩ o,o.dst,n7 (cls i),o.op with
  |some true,some d,true,.call {callee:=.builtin .append,args:=⟨[s,y]⟩,argTypes:=⟨[ty,tx]⟩}=>UM τ ds t M d ty tx s y
  |_,_,_,_=>none
 |none=>none
theorem OS (hτ:TabOK P τ) {t':List (Nat×AV)} {M':aG} {nb nl:Nat} (hs:xF τ ops cls ds i t M=some (t',M',nb,nl)) (hb:nb≤140737488355328) (hl:nl≤140737488355328) (h:DW P ops cls Q ds ls t' M'):DW P ops cls Q ds (i::ls) t M:=by
 unfold xF at hs
 split at hs
 ·rename_i o hi
  split at hs
  ·rename_i d s y ty tx hw hd hc ho
   unfold UM at hs
   split at hs
   ·rename_i sz xs hS
    split at hs
    ·rename_i ti xi ht hxi
     split at hs
     ·rename_i e hk
      split at hs
      ·rename_i ei he
       split at hs
       ·rename_i ys hp hf hsz hX
        cases hs
        have hsz':sz=ei.size∨xs=[]:=by
         rcases Bool.or_eq_true_iff.1 hsz with h|h
         ·exact .inl (of_decide_eq_true h)
         ·exact .inr (List.isEmpty_iff.1 h)
        exact SX hτ hi hw hd ho hS ht hk he hp hxi hf hX hc hsz' hb hl h
       ·cases hs
      ·cases hs
     ·cases hs
    ·cases hs
   ·cases hs
  ·cases hs
 ·cases hs
end
attribute [simp] aB aK aP dO jL xP BF N7
theorem w9:∀x,x∈([]:List AV)→aN x:=by simp
theorem aY {x:AV} {l:List AV} (h:aN x) (hl:∀y,y∈l→aN y):∀y,y∈x::l→aN y:=by
 intro y hy
 rcases List.mem_cons.1 hy with rfl|hy
 ·exact h
 ·exact hl y hy
end Go.Ab
namespace Go.Proofs.YteliblifgdofgaaGreatDoor
open Go.Ab
theorem aB4:pN Tryz.prog eqs:=ZR (by kernel_rfl)
theorem a68:TabOK Tryz.prog iR∧pN Tryz.prog eqs:=⟨aF,aB4⟩
theorem mixed:Tryz.prog.follows .mixedOrders=true:=by kernel_rfl
abbrev aD:=List UInt8
section
variable {ops:Array Oper} {cls:Nat→fQ} {Q:AX→AF→aG→Prop} {ds:List bJ} {ls:List Nat} {i:Nat} {t t':List (Nat×AV)} {M M':aG}
theorem zA (hs:V5 iR eqs ops cls ds i t M=some (t',M')) (h:DW Tryz.prog ops cls Q ds ls t' M'):DW Tryz.prog ops cls Q ds (i::ls) t M:=aBl a68 hs h
theorem zB {d:Nat} {x y:Bool} (hs:C8 iR eqs ops ds i t=some (d,.bool x)) (hx:x=y) (h:DW Tryz.prog ops cls Q ds ls ((d,.bool y)::t) M):DW Tryz.prog ops cls Q ds (i::ls) t M:=aA8 a68 hs hx h
theorem zI {d:Nat} {k:IntKind} {x y:Int} (hs:C8 iR eqs ops ds i t=some (d,.int k x)) (hx:x=y) (h:DW Tryz.prog ops cls Q ds ls ((d,.int k y)::t) M):DW Tryz.prog ops cls Q ds (i::ls) t M:=a96 a68 hs hx h
theorem zX {d:Nat} {xs:List AV} {n:Int} {x:AV} (hs:NC iR ops ds i t=some (d,xs,n)) (hx:0≤n∧xs[n.toNat]? =some x) (h:DW Tryz.prog ops cls Q ds ls ((d,.ref x.cells)::t) M):DW Tryz.prog ops cls Q ds (i::ls) t M:=a99 aF hs hx h
theorem zR (hs:G3 iR ops ds i t=some t') (h:DW Tryz.prog ops cls Q ds ls t' M):DW Tryz.prog ops cls Q ds (i::ls) t M:=a6o aF hs h
theorem zP {nb nl g1 g2:Nat} (hs:DU iR ops cls ds i t M=some (t',M',nb,nl,g1,g2)) (hgg:g1=g2) (h:DW Tryz.prog ops cls Q ds ls t' M') (hb:nb≤140737488355328:=by simp;omega) (hl:nl≤140737488355328:=by simp;omega):DW Tryz.prog ops cls Q ds (i::ls) t M:=a83 aF hs hgg hb hl h
theorem zQ {nb nl:Nat} (hs:xF iR ops cls ds i t M=some (t',M',nb,nl)) (h:DW Tryz.prog ops cls Q ds ls t' M') (hb:nb≤140737488355328:=by simp;omega) (hl:nl≤140737488355328:=by simp;omega):DW Tryz.prog ops cls Q ds (i::ls) t M:=OS aF hs hb hl h
end
theorem CO (s:aD):aO Tryz.prog 342 [.str s] (.bool false):=by
 intro M
 refine aC aF Tryz.func342 rfl (by decide) (by simp[Tryz.f342]) ?_
 have h:(!(s==s))=false:=by simp
 repeat' (first|refine zB rfl h ?_|refine zA rfl ?_|refine aA ?_|refine aL rfl ?_)
 exact⟨rfl,_,rfl,rfl,rfl⟩
theorem CR (s:Int):aO Tryz.prog 296 [.int .i64 s] (.bool false):=by
 intro M
 refine aC aF Tryz.func296 rfl (by decide) (by simp[Tryz.f296]) ?_
 have h:(!decide (s=s))=false:=by simp
 repeat' (first|refine zB rfl h ?_|refine zA rfl ?_|refine aA ?_|refine aL rfl ?_)
 exact⟨rfl,_,rfl,rfl,rfl⟩
def A3 (a b:aD):Int:=if Op.bytesLess a b=true then -1 else if (a==b)=true then 0 else 1
def B8 (a b:Int):Int:=if a < b then -1 else if b < a then 1 else 0
theorem GQ (a b:Int):aO Tryz.prog 309 [.int .i64 a,.int .i64 b] (.int .i64 (B8 a b)):=by
 intro M
 refine aC aF Tryz.func309 rfl (by decide) (by simp[Tryz.f309]) ?_
 repeat' (first|refine zA rfl ?_|refine aA ?_|refine aL rfl ?_)
 refine fG rfl rfl rfl rfl rfl (CR a) ?_
 repeat' (first|refine zA rfl ?_|refine aA ?_|refine aL rfl ?_)
 refine fG rfl rfl rfl rfl rfl (CR b) ?_
 by_cases h1:a < b
 ·have d1:decide (a < b)=true:=by simp[h1]
  have e:B8 a b=-1:=by simp[B8,h1]
  rw[e]
  repeat' (first|refine zB rfl d1 ?_|refine zA rfl ?_|refine aA ?_|refine aL rfl ?_)
  exact⟨rfl,_,rfl,rfl,rfl⟩
 ·have d1:decide (a < b)=false:=by simp[h1]
  by_cases h2:b < a
  ·have d2:decide (b < a)=true:=by simp[h2]
   have e:B8 a b=1:=by simp[B8,h1,h2]
   rw[e]
   repeat' (first|refine zB rfl (by first|exact d1|exact d2) ?_|refine zA rfl ?_|refine aA ?_|refine aL rfl ?_)
   exact⟨rfl,_,rfl,rfl,rfl⟩
  ·have d2:decide (b < a)=false:=by simp[h2]
   have e:B8 a b=0:=by simp[B8,h1,h2]
   rw[e]
   repeat' (first|refine zB rfl (by first|exact d1|exact d2) ?_|refine zA rfl ?_|refine aA ?_|refine aL rfl ?_)
   exact⟨rfl,_,rfl,rfl,rfl⟩
theorem H2 (a b:aD):aO Tryz.prog 330 [.str a,.str b] (.int .i64 (A3 a b)):=by
 intro M
 refine aC aF Tryz.func330 rfl (by decide) (by simp[Tryz.f330]) ?_
 repeat' (first|refine zA rfl ?_|refine aA ?_|refine aL rfl ?_)
 refine fG rfl rfl rfl rfl rfl (CO a) ?_
 repeat' (first|refine zA rfl ?_|refine aA ?_|refine aL rfl ?_)
 refine fG rfl rfl rfl rfl rfl (CO b) ?_
 cases h1:Op.bytesLess a b
 ·cases h2:a==b
  ·have d2:(!(Op.bytesLess a b||a==b))=true:=by rw[h1,h2];rfl
   have e:A3 a b=1:=by simp[A3,h1,h2]
   rw[e]
   repeat' (first|refine zB rfl (by first|exact h1|exact d2) ?_|refine zA rfl ?_|refine aA ?_|refine aL rfl ?_)
   exact⟨rfl,_,rfl,rfl,rfl⟩
  ·have d2:(!(Op.bytesLess a b||a==b))=false:=by rw[h1,h2];rfl
   have e:A3 a b=0:=by simp[A3,h1,h2]
   rw[e]
   repeat' (first|refine zB rfl (by first|exact h1|exact d2) ?_|refine zA rfl ?_|refine aA ?_|refine aL rfl ?_)
   exact⟨rfl,_,rfl,rfl,rfl⟩
 ·have e:A3 a b=-1:=by simp[A3,h1]
  rw[e]
  repeat' (first|refine zB rfl h1 ?_|refine zA rfl ?_|refine aA ?_|refine aL rfl ?_)
  exact⟨rfl,_,rfl,rfl,rfl⟩
end Go.Proofs.YteliblifgdofgaaGreatDoor
namespace Go.Ab
open Go.RowKit
theorem aX {x:AV} (hx:aN x):∀z,z∈[x]→aN z:=by
 intro z hz
 simp only[List.mem_cons,List.not_mem_nil,or_false] at hz
 subst hz
 exact hx
theorem aV {x y:AV} (hx:aN x) (hy:aN y):∀z,z∈[x,y]→aN z:=by
 intro z hz
 simp only[List.mem_cons,List.not_mem_nil,or_false] at hz
 rcases hz with rfl|rfl
 ·exact hx
 ·exact hy
theorem bK {x y u:AV} (hx:aN x) (hy:aN y) (hu:aN u):∀z,z∈[x,y,u]→aN z:=by
 intro z hz
 simp only[List.mem_cons,List.not_mem_nil,or_false] at hz
 rcases hz with rfl|rfl|rfl
 ·exact hx
 ·exact hy
 ·exact hu
theorem aI.tup2 {k:Nat} {a b c d:AV} (h1:aI k a c) (h2:aI k b d):aI k (.tup [a,b]) (.tup [c,d]):=by
 intro μ F w v hr
 obtain⟨r,rfl,hs,hv⟩:=hr.tup_inv
 refine .tup _ _ hs ?_
 intro i x u hx hu
 match i with
 |0=>simp at hx;subst hx;exact h1 μ F w u (hv 0 a u rfl hu)
 |1=>simp at hx;subst hx;exact h2 μ F w u (hv 1 b u rfl hu)
 |i+2=>simp at hx
theorem aI.tup3 {k:Nat} {a b c a' b' c':AV} (h1:aI k a a') (h2:aI k b b') (h3:aI k c c'):aI k (.tup [a,b,c]) (.tup [a',b',c']):=by
 intro μ F w v hr
 obtain⟨r,rfl,hs,hv⟩:=hr.tup_inv
 refine .tup _ _ hs ?_
 intro i x u hx hu
 match i with
 |0=>simp at hx;subst hx;exact h1 μ F w u (hv 0 a u rfl hu)
 |1=>simp at hx;subst hx;exact h2 μ F w u (hv 1 b u rfl hu)
 |2=>simp at hx;subst hx;exact h3 μ F w u (hv 2 c u rfl hu)
 |i+3=>simp at hx
theorem Sub.tup2 {a b c d:AV} (h1:Sub a c) (h2:Sub b d):Sub (.tup [a,b]) (.tup [c,d]):=by
 intro μ F w v hr
 obtain⟨r,rfl,hs,hv⟩:=hr.tup_inv
 refine .tup _ _ hs ?_
 intro i x u hx hu
 match i with
 |0=>simp at hx;subst hx;exact h1 μ F w u (hv 0 a u rfl hu)
 |1=>simp at hx;subst hx;exact h2 μ F w u (hv 1 b u rfl hu)
 |i+2=>simp at hx
theorem g9 {α:Type} {f:α→AV} {sz:Nat} {l:List α} (h:∀a,aN (f a)) (hc:∀a,∀c,c∈(f a).cells→aN c):aN (.sl sz (l.map f) .none):=by
 refine bR (.inl rfl) ?_ ?_
 ·intro x hx
  obtain⟨a,_,rfl⟩:=List.mem_map.1 hx
  exact h a
 ·intro x hx
  obtain⟨a,_,rfl⟩:=List.mem_map.1 hx
  exact hc a
theorem eJ {l:List (List UInt8)}:aN (.sl 1 (l.map .str) .none):=
 g9 (fun _=>aP) (fun a c hc=>by simp[AV.cells] at hc;subst hc;exact aP)
theorem aI.untag {k sz:Nat} {xs:List AV} {t:eE} (h:aN (.sl sz xs .none)):aI k (.sl sz xs t) (.sl sz xs .none):=aI.pre Sub.untag (aI.of_closed h)
theorem aI.nil {k sz sz':Nat} {t:eE}:aI k (.sl sz [] t) (.sl sz' [] .none):=
 aI.pre (y:=.sl sz' [] .none) (fun μ F w v h=>Sub.empty (.inl rfl) μ F w v (tQ h)) (aI.of_closed (bR (.inl rfl) (by simp) (by simp)))
theorem aU {P:Program} {g:FuncId} {args:List AV} {y:AV} (ha:∀x,x∈args→aN x) (hy:aN y) (h:aQ P g args ⟨0,[]⟩ (fun e _=>∃x,e=.ret x∧aI 0 x y)):aO P g args y:=by
 refine TH ha hy ?_
 refine aQ.mono (h.joint (R':=fun e _=>e=.ret y) ?_ ?_) (fun e M he=>he)
 ·rintro x M' ⟨z,e,hs⟩
  cases e
  exact⟨_,⟨0,[]⟩,rfl,aR.cut (Nat.le_refl _) (Nat.zero_le _) rfl ⟨hs,trivial⟩ trivial⟩
 ·rintro x M' ⟨z,e,_⟩
  cases e
def tokM (g:Nat):aG:=⟨1,[(0,.spare g)]⟩
theorem fF {g:Nat} {M:aG} (hn:1=M.next) (h1:M.get 0=some (.spare g)):(tokM g).le M:=aG.le_cons h1 (aG.le_nil hn)
end Go.Ab
namespace Go.Proofs.YteliblifgdofgaaGreatDoor
open Go.Ab
structure Ky where
 path:aD
 time:Int
deriving DecidableEq
def Ky.av (k:Ky):AV:=.agg [.str k.path,.int .i64 k.time]
theorem iU (k:Ky):aN k.av:=bU (aV aP aB)
def uL (a b:Int):Int:=if a=0 then b else a
theorem V8 (a b:Int) (tg:eE):aO Tryz.prog 329 [.sl 1 [.int .i64 a,.int .i64 b] tg] (.int .i64 (uL a b)):=by
 intro M
 refine aC aF Tryz.func329 rfl (by decide) (by simp[Tryz.f329]) ?_
 repeat' (first|refine zA rfl ?_|refine aA ?_|refine aL rfl ?_)
 refine lB (fun m f N=>N=M∧((m=2∧f=⟨[(5,.sl 1 [.int .i64 a,.int .i64 b] tg),(6,.int .i64 2),(7,.int .i64 0)],[]⟩)∨(a=0∧m=1∧f=⟨[(5,.sl 1 [.int .i64 a,.int .i64 b] tg),(6,.int .i64 2),(7,.int .i64 1)],[]⟩)∨
  (a=0∧b=0∧m=0∧f=⟨[(5,.sl 1 [.int .i64 a,.int .i64 b] tg),(6,.int .i64 2),(7,.int .i64 2)],[]⟩))) (k:=2) ⟨rfl,.inl ⟨rfl,rfl⟩⟩ (aR.le ?_ (aG.le_refl _)) ?_
 ·skip
  repeat (refine AF.le_cons rfl ?_)
  exact AF.le_nil rfl
 ·rintro m f N ⟨rfl,⟨rfl,rfl⟩|⟨rfl,rfl,rfl⟩|⟨rfl,rfl,rfl,rfl⟩⟩
  ·have w1:IntKind.wrap .i64 (0+1)=1:=rfl
   repeat' (first|refine zA rfl ?_|refine aA ?_|refine aL rfl ?_)
   refine dG aF rfl rfl rfl rfl rfl rfl rfl rfl rfl rfl (by decide) (x:=.int .i64 a) rfl ?_
   by_cases h:a=0
   ·have d:(!decide (a=0))=false:=by simp[h]
    repeat' (first|refine zB rfl d ?_|refine zI rfl w1 ?_|refine zA rfl ?_|refine aA ?_|refine aL rfl ?_)
    exact⟨1,_,_,by omega,⟨rfl,.inr (.inl ⟨h,rfl,rfl⟩)⟩,aR.le (AF.le_cons rfl (AF.le_cons rfl (AF.le_cons rfl (AF.le_nil rfl)))) (aG.le_refl _)⟩
   ·have d:(!decide (a=0))=true:=by simp[h]
    repeat' (first|refine zB rfl d ?_|refine zA rfl ?_|refine aA ?_|refine aL rfl ?_)
    exact⟨rfl,_,rfl,FN (by simp[uL,h]),rfl⟩
  ·have w1:IntKind.wrap .i64 (1+1)=2:=rfl
   repeat' (first|refine zA rfl ?_|refine aA ?_|refine aL rfl ?_)
   refine dG aF rfl rfl rfl rfl rfl rfl rfl rfl rfl rfl (by decide) (x:=.int .i64 b) rfl ?_
   by_cases h:b=0
   ·have d:(!decide (b=0))=false:=by simp[h]
    repeat' (first|refine zB rfl d ?_|refine zI rfl w1 ?_|refine zA rfl ?_|refine aA ?_|refine aL rfl ?_)
    exact⟨0,_,_,by omega,⟨rfl,.inr (.inr ⟨rfl,h,rfl,rfl⟩)⟩,aR.le (AF.le_cons rfl (AF.le_cons rfl (AF.le_cons rfl (AF.le_nil rfl)))) (aG.le_refl _)⟩
   ·have d:(!decide (b=0))=true:=by simp[h]
    repeat' (first|refine zB rfl d ?_|refine zA rfl ?_|refine aA ?_|refine aL rfl ?_)
    exact⟨rfl,_,rfl,FN (by simp[uL]),rfl⟩
  ·repeat' (first|refine zA rfl ?_|refine aA ?_|refine aL rfl ?_)
   exact⟨rfl,_,rfl,FN (by simp[uL]),rfl⟩
def toS (a b:Ky):Int:=uL (A3 a.path b.path) (B8 b.time a.time)
theorem a9y (a b:Ky):aO Tryz.prog 322 [a.av,b.av] (.int .i64 (toS a b)):=by
 intro M
 refine aC aF Tryz.func322 rfl (by decide) (by simp[Tryz.f322]) ?_
 repeat' (first|refine zA rfl ?_|refine aA ?_|refine aL rfl ?_|refine aW mixed [0,1,2,3,4,5,6,7,8,9,10,11,12] [.R,.R,.R,.R,.P,.R,.R,.R,.R,.P,.P,.P,.P] rfl rfl (by kernel_rfl) ?_)
 refine fG rfl rfl rfl rfl rfl (H2 a.path b.path) ?_
 repeat' (first|refine zA rfl ?_)
 refine fG rfl rfl rfl rfl rfl (GQ b.time a.time) ?_
 repeat' (first|refine zR rfl ?_)
 refine fG rfl rfl rfl rfl rfl (V8 (A3 a.path b.path) (B8 b.time a.time) _) ?_
 repeat' (first|refine zA rfl ?_|refine aA ?_|refine aL rfl ?_)
 exact⟨rfl,_,rfl,rfl,rfl⟩
theorem N4 (a b:Ky):aO Tryz.prog 305 [a.av,b.av] (.int .i64 (toS a b)):=by
 intro M
 refine aC aF Tryz.func305 rfl (by decide) (by simp[Tryz.f305]) ?_
 repeat' (first|refine zA rfl ?_|refine aA ?_|refine aL rfl ?_)
 refine fG rfl rfl rfl rfl rfl (a9y a b) ?_
 repeat' (first|refine zA rfl ?_|refine aA ?_|refine aL rfl ?_)
 exact⟨rfl,_,rfl,rfl,rfl⟩
theorem FR (a b:Ky):aO Tryz.prog 268 [a.av,b.av] (.bool (decide (toS a b < 0))):=by
 intro M
 refine aC aF Tryz.func268 rfl (by decide) (by simp[Tryz.f268]) ?_
 repeat' (first|refine zA rfl ?_|refine aA ?_|refine aL rfl ?_)
 refine fG rfl rfl rfl rfl rfl (N4 a b) ?_
 repeat' (first|refine zA rfl ?_|refine aA ?_|refine aL rfl ?_)
 exact⟨rfl,_,rfl,rfl,rfl⟩
def bI (a b:Ky):Bool:=Op.bytesLess a.path b.path||(a.path==b.path&&decide (b.time < a.time))
def a87 (a b:Ky):Int:=if bI a b=true then -1 else if bI b a=true then 1 else 0
abbrev bl (a b:aD):Bool:=Op.bytesLess a b
theorem dW:∀a:aD,bl a a=false
 |[]=>rfl
 |b::l=>by
  have:=dW l
  simp only[bl,Op.bytesLess] at this ⊢
  rw[this]
  simp
theorem nA:∀{a b c:aD},bl a b=true→bl b c=true→bl a c=true
 |_,_,[],_,h=>by simp[bl,Op.bytesLess] at h
 |_,[],_::_,h,_=>by simp[bl,Op.bytesLess] at h
 |[],_::_,_::_,_,_=>rfl
 |x::a,y::b,z::c,h1,h2=>by
  simp only[bl,Op.bytesLess,Bool.or_eq_true,Bool.and_eq_true,decide_eq_true_eq,beq_iff_eq,UInt8.lt_iff_toNat_lt] at h1 h2 ⊢
  rcases h1 with h1|⟨rfl,h1⟩
  ·rcases h2 with h2|⟨rfl,h2⟩
   ·exact .inl (by omega)
   ·exact .inl h1
  ·rcases h2 with h2|⟨rfl,h2⟩
   ·exact .inl h2
   ·exact .inr ⟨rfl,nA (a:=a) (b:=b) (c:=c) h1 h2⟩
theorem A5:∀{a b:aD},a≠b→bl a b=true∨bl b a=true
 |[],[],h=>absurd rfl h
 |[],_::_,_=>.inl rfl
 |_::_,[],_=>.inr rfl
 |x::a,y::b,h=>by
  simp only[bl,Op.bytesLess,Bool.or_eq_true,Bool.and_eq_true,decide_eq_true_eq,beq_iff_eq,UInt8.lt_iff_toNat_lt]
  by_cases e:x=y
  ·subst e
   rcases A5 (a:=a) (b:=b) (fun e=>h (by rw[e])) with h1|h1
   ·exact .inl (.inr ⟨rfl,h1⟩)
   ·exact .inr (.inr ⟨rfl,h1⟩)
  ·have:x.toNat≠y.toNat:=fun he=>e (UInt8.toNat_inj.1 he)
   rcases Nat.lt_or_gt_of_ne this with h1|h1
   ·exact .inl (.inl h1)
   ·exact .inr (.inl h1)
theorem y3 {a b:aD} (h:bl a b=true):bl b a=false:=by
 cases hb:bl b a
 ·rfl
 ·have:=nA h hb
  rw[dW] at this
  cases this
theorem V4 (a b:aD):A3 a b=if bl a b=true then -1 else if a=b then 0 else 1:=by
 unfold A3
 simp only[beq_iff_eq]
theorem Z3 (a b:Ky):toS a b=a87 a b:=by
 unfold toS a87 bI uL
 rw[V4]
 unfold B8
 by_cases h1:bl a.path b.path=true
 ·have:Op.bytesLess a.path b.path=true:=h1
  simp[this]
 ·have h1':Op.bytesLess a.path b.path=false:=by simpa using h1
  by_cases h2:a.path=b.path
  ·have h3:Op.bytesLess b.path a.path=false:=by rw[h2];exact dW _
   have h4:Op.bytesLess b.path b.path=false:=dW _
   by_cases h5:b.time < a.time
   ·simp[h2,h4,h5]
   ·by_cases h6:a.time < b.time
    ·simp[h2,h4,h5,h6]
    ·simp[h2,h4,h5,h6]
  ·have h3:Op.bytesLess b.path a.path=true:=by
    rcases A5 h2 with h|h
    ·exact absurd h h1
    ·exact h
   simp[h1',h2,h3,Ne.symm h2]
theorem gT {a b:Ky} (h:bI a b=true):bI b a=false:=by
 unfold bI at h ⊢
 simp only[Bool.or_eq_true,Bool.and_eq_true,beq_iff_eq,decide_eq_true_eq] at h
 rcases h with h|⟨h1,h2⟩
 ·have h3:=y3 h
  have h4:¬b.path=a.path:=fun e=>by
   rw[e] at h
   have:=dW a.path
   simp only[bl] at this
   rw[this] at h
   cases h
  simp only[bl] at h3
  simp[h3,h4]
 ·have h3:=dW b.path
  simp only[bl] at h3
  rw[h1,h3]
  simp
  omega
theorem FD (a b:Ky):decide (toS a b < 0)=bI a b:=by
 rw[Z3]
 unfold a87
 cases h:bI a b
 ·simp
  split<;>omega
 ·simp
theorem j8 {a b c:Ky} (h1:bI a b=true) (h2:bI b c=true):bI a c=true:=by
 unfold bI at h1 h2 ⊢
 simp only[Bool.or_eq_true,Bool.and_eq_true,beq_iff_eq,decide_eq_true_eq] at h1 h2 ⊢
 rcases h1 with h1|⟨h1,h1'⟩
 ·rcases h2 with h2|⟨h2,h2'⟩
  ·exact .inl (nA h1 h2)
  ·rw[h2] at h1
   exact .inl h1
 ·rcases h2 with h2|⟨h2,h2'⟩
  ·rw[h1]
   exact .inl h2
  ·exact .inr ⟨h1.trans h2,by omega⟩
theorem vS {a b:Ky} (h:a≠b):bI a b=true∨bI b a=true:=by
 unfold bI
 simp only[Bool.or_eq_true,Bool.and_eq_true,beq_iff_eq,decide_eq_true_eq]
 by_cases hp:a.path=b.path
 ·have ht:a.time≠b.time:=fun e=>h (by cases a;cases b;simp_all)
  rcases Int.lt_or_gt_of_ne ht with h1|h1
  ·exact .inr (.inr ⟨hp.symm,h1⟩)
  ·exact .inl (.inr ⟨hp,h1⟩)
 ·rcases A5 hp with h1|h1
  ·exact .inl (.inl h1)
  ·exact .inr (.inl h1)
end Go.Proofs.YteliblifgdofgaaGreatDoor
namespace Go.Ab
open Go.Shelf Go.RowKit Go.Lib Go.Proofs
variable {P:Program} {ρ:Ren}
theorem KM (r:Int) (h0:128≤r) (h1:r≤2047):Utf8.encode r=⟨#[UInt8.ofNat (0xC0+r.toNat/64),UInt8.ofNat (0x80+r.toNat%64)]⟩:=by
 unfold Utf8.encode
 have hv:Utf8.valid r=true:=by simp[Utf8.valid];omega
 simp only[hv,if_true]
 rw[if_neg (by omega),if_pos (by omega)]
theorem J9 (r:Int) (h0:2048≤r) (hv:Utf8.valid r=true):∃s:ByteArray,Utf8.encode r=s∧3≤s.size∧s.size≤4:=by
 refine⟨_,rfl,?_⟩
 unfold Utf8.encode
 simp only[hv,if_true]
 rw[if_neg (by omega),if_neg (by omega)]
 split
 ·exact⟨Nat.le_refl 3,by show 3≤4;omega⟩
 ·exact⟨by show 3≤4;omega,Nat.le_refl 4⟩
theorem C9 {src dst:TypeId} (hs:P.underlying src=some (.int .i32)) (hd:P.underlying dst=some .string) (r:Int) (w:World):
  (convert src dst (.int .i32 r)).run P w=.ok (.string (Utf8.encode r)) w:=by
 simp[convert,run_underlying hs,run_underlying hd,Conv.intToString]
theorem WH (w:World) (n:Nat):Below w.heap.size w (w.drewN n):=⟨rfl,rfl,rfl,Nat.le_refl _,fun _ _=>rfl⟩
set_option maxRecDepth 1000000 in
theorem BC (L:Lays.n152 P ρ) (r:Int) (w:World) (h0:128≤r) (h1:r≤2047):
  Calls P (ρ.f 152) #[.string ⟨#[47,0]⟩,.int .i32 r] w fun e w'=>e=.returned (.int .i64 (-1))∧Below w.heap.size w w':=by
 have mixed:=L.mixed
 have t3:=L.t3;have a3:=L.a3;have z3:=L.z3;have v3:=L.v3
 have t4:=L.t4;have a4:=L.a4;have z4:=L.z4;have v4:=L.v4
 have t5:=L.t5;have a5:=L.a5;have z5:=L.z5;have v5:=L.v5
 have t9:=L.t9;have a9:=L.a9;have z9:=L.z9;have v9:=L.v9
 have t21:=L.t21;have a21:=L.a21;have z21:=L.z21;have v21:=L.v21
 have e119:∀args w,(callFunc (ρ.f 119) args).run P w=.ok (.enter (ρ.f 119) args) w:=enters_of L.f119 (by kernel_rfl) rfl
 have e137:∀args w,(callFunc (ρ.f 137) args).run P w=.ok (.enter (ρ.f 137) args) w:=enters_of L.f137 (by kernel_rfl) rfl
 have g1:decide (r < 128)=false:=by simp;omega
 have g2:(r==65533)=false:=by simp;omega
 have g3:Lib.validRune r=true:=by simp[Lib.validRune];omega
 have hc:=fun w=>C9 (P:=P) t21 t9 r w
 obtain⟨b,hb,hbn⟩:∃b:UInt8,UInt8.ofNat (0x80+r.toNat%64)=b∧b≠0:=by
  refine⟨_,rfl,fun h=>?_⟩
  have:=congrArg UInt8.toNat h
  simp at this
  omega
 obtain⟨a,ha⟩:∃a:UInt8,UInt8.ofNat (0xC0+r.toNat/64)=a:=⟨_,rfl⟩
 rw[KM r h0 h1,hb,ha] at hc
 clear hb ha
 have hne:((((⟨#[47,0]⟩:ByteArray)[1]'(by decide)).toNat:Int) != (((⟨#[a,b]⟩:ByteArray)[1]'(by show 1 < 2;decide)).toNat:Int))=true:=by
  simp only[bne_iff_ne,ne_eq]
  intro h
  apply hbn
  apply UInt8.toNat_inj.1
  have h':((0:UInt8).toNat:Int)=(b.toNat:Int):=h
  omega
 go_enter L.f152,Body.n152_ntmps ρ
 go_wp2_with (first|(go_at_fn (ρ.f 119);refine (Any.utf8_ValidRune {L with} _ _).mono ?_;rintro e w' ⟨rfl,hw⟩;rw[hw,g3];clear hw))
 go_step3
 go_wp2
 apply wp_loop_once
 go_wp2
 go_step3
 go_wp2
 go_region_o
 all_goals go_wp2
 all_goals go_region_with_o (go_at_fn (ρ.f 137);refine (Any.strings_IndexByte {L with} _ _ _).mono ?_;rintro e w' ⟨rfl,hw⟩;rw[hw])
 all_goals go_wp2
 all_goals (change bodyPost P (Body.n152 ρ) (fun e w'=>e=.returned (.int .i64 (-1))∧Below w.heap.size w w') Exit.ret _ _;go_ret)
 all_goals exact⟨rfl,WH w 2⟩
set_option maxRecDepth 1000000 in
theorem xN (L:Lays.n152 P ρ) (r:Int) (w:World) (h0:2048≤r) (hv:Utf8.valid r=true) (hne:r≠65533):
  Calls P (ρ.f 152) #[.string ⟨#[47,0]⟩,.int .i32 r] w fun e w'=>e=.returned (.int .i64 (-1))∧Below w.heap.size w w':=by
 have mixed:=L.mixed
 have t3:=L.t3;have a3:=L.a3;have z3:=L.z3;have v3:=L.v3
 have t4:=L.t4;have a4:=L.a4;have z4:=L.z4;have v4:=L.v4
 have t5:=L.t5;have a5:=L.a5;have z5:=L.z5;have v5:=L.v5
 have t9:=L.t9;have a9:=L.a9;have z9:=L.z9;have v9:=L.v9
 have t21:=L.t21;have a21:=L.a21;have z21:=L.z21;have v21:=L.v21
 have e119:∀args w,(callFunc (ρ.f 119) args).run P w=.ok (.enter (ρ.f 119) args) w:=enters_of L.f119 (by kernel_rfl) rfl
 have g1:decide (r < 128)=false:=by simp;omega
 have g2:(r==65533)=false:=by simpa using hne
 have g3:Lib.validRune r=true:=by
  simp[Utf8.valid] at hv
  simp[Lib.validRune]
  omega
 have hc:=fun w=>C9 (P:=P) t21 t9 r w
 obtain⟨s,hs,hl,hl4⟩:=J9 r h0 hv
 rw[hs] at hc
 have g5:wrap64 ((s.size:Int) - 1)=(s.size:Int) - 1:=by
  rcases (by omega:s.size=3∨s.size=4) with h|h<;>rw[h]<;>simp[wrap64]
 have g4:decide ((s.size:Int) - 1 < 2)=false:=by simp;omega
 go_enter L.f152,Body.n152_ntmps ρ
 go_wp2_with (first|(go_at_fn (ρ.f 119);refine (Any.utf8_ValidRune {L with} _ _).mono ?_;rintro e w' ⟨rfl,hw⟩;rw[hw,g3];clear hw))
 go_step3
 go_wp2
 apply wp_loop_once
 go_wp2
 (change bodyPost P (Body.n152 ρ) (fun e w'=>e=.returned (.int .i64 (-1))∧Below w.heap.size w w') Exit.ret _ _;go_ret)
 exact⟨rfl,Below.refl _ _⟩
set_option maxRecDepth 1000000 in
theorem B3 (L:Lays.n152 P ρ) (r:Int) (w:World) (h0:2048≤r) (hv:Lib.validRune r=false):
  Calls P (ρ.f 152) #[.string ⟨#[47,0]⟩,.int .i32 r] w fun e w'=>e=.returned (.int .i64 (-1))∧Below w.heap.size w w':=by
 have mixed:=L.mixed
 have t3:=L.t3;have a3:=L.a3;have z3:=L.z3;have v3:=L.v3
 have t4:=L.t4;have a4:=L.a4;have z4:=L.z4;have v4:=L.v4
 have t9:=L.t9;have a9:=L.a9;have z9:=L.z9;have v9:=L.v9
 have t21:=L.t21;have a21:=L.a21;have z21:=L.z21;have v21:=L.v21
 have e119:∀args w,(callFunc (ρ.f 119) args).run P w=.ok (.enter (ρ.f 119) args) w:=enters_of L.f119 (by kernel_rfl) rfl
 have g1:decide (r < 128)=false:=by simp;omega
 have g2:(r==65533)=false:=by
  simp
  rintro rfl
  cases hv
 go_enter L.f152,Body.n152_ntmps ρ
 go_wp2_with (first|(go_at_fn (ρ.f 119);refine (Any.utf8_ValidRune {L with} _ _).mono ?_;rintro e w' ⟨rfl,hw⟩;rw[hw,hv];clear hw))
 all_goals go_ret
 all_goals exact⟨rfl,Below.refl _ _⟩
theorem xQ (w:World) (s:ByteArray) (p:Nat):Below w.heap.size w (w.iter s p):=(Below.refl _ _).alloc (Nat.le_refl _) _
set_option maxRecDepth 1000000 in
theorem AY (L:Lays.n152 P ρ) (w:World):
  Calls P (ρ.f 152) #[.string ⟨#[47,0]⟩,.int .i32 65533] w fun e w'=>e=.returned (.int .i64 (-1))∧Below w.heap.size w w':=by
 have mixed:=L.mixed
 have t3:=L.t3;have a3:=L.a3;have z3:=L.z3;have v3:=L.v3
 have t4:=L.t4;have a4:=L.a4;have z4:=L.z4;have v4:=L.v4
 have t9:=L.t9;have a9:=L.a9;have z9:=L.z9;have v9:=L.v9
 have t21:=L.t21;have a21:=L.a21;have z21:=L.z21;have v21:=L.v21
 go_enter L.f152,Body.n152_ntmps ρ
 go_wp2
 go_loopg [5,6] 2 (fun g _ _ wx=>∃i:Nat,i+g=2∧wx=w.iter ⟨#[47,0]⟩ i)
 case atStart=>exact⟨0,rfl,rfl⟩
 case round=>
  obtain⟨i,hig,rfl⟩:=hrel
  cases gk with
  |zero=>
   obtain rfl:i=2:=by omega
   have hnx:=run_next_end (P:=P) w ⟨#[47,0]⟩ 2
   go_wp2
   go_ret
   exact⟨rfl,xQ _ _ _⟩
  |succ g=>
   have hi:i < (⟨#[47,0]⟩:ByteArray).size:=by show i < 2;omega
   have hx:(((⟨#[47,0]⟩:ByteArray)[i]'hi).toNat:Nat) < 128:=by
    rcases (by omega:i=0∨i=1) with rfl|rfl
    ·show (47:UInt8).toNat < 128
     decide
    ·show (0:UInt8).toNat < 128
     decide
   have hnx:=fun ty=>run_next_ascii (P:=P) w ⟨#[47,0]⟩ i ty hi hx
   obtain⟨x,hxe⟩:∃x:Nat,((⟨#[47,0]⟩:ByteArray)[i]'hi).toNat=x:=⟨_,rfl⟩
   rw[hxe] at hnx hx
   have g2:((x:Int)==65533)=false:=by simp;omega
   go_wp2
   go_roundg g
   case measure=>omega
   case rel=>exact⟨i+1,by omega,rfl⟩
theorem yE (L:Lays.n152 P ρ) (r:Int) (w:World) (h0:128≤r):
  Calls P (ρ.f 152) #[.string ⟨#[47,0]⟩,.int .i32 r] w fun e w'=>e=.returned (.int .i64 (-1))∧Below w.heap.size w w':=by
 by_cases h1:r≤2047
 ·exact BC L r w h0 h1
 by_cases h2:r=65533
 ·subst h2
  exact AY L w
 cases hv:Lib.validRune r with
 |false=>exact B3 L r w (by omega) hv
 |true=>
  refine xN L r w (by omega) ?_ h2
  simp[Lib.validRune] at hv
  simp[Utf8.valid]
  omega
theorem GO (s:ByteArray) (i:Nat) (h:i < s.size) {b:UInt8} (hb:s.data.toList[i]? =some b):s.get! i=b:=by
 have h1:=get_at s i h
 have h2:=Lib.data_getElem? s i h
 rw[hb] at h2
 cases h2
 simpa using h1
theorem IG (s:ByteArray) (pos:Nat) (h:pos < s.size) (ha:128≤(s[pos]'h).toNat):
  pos+(Utf8.decode s pos).2≤s.size∧∀(j:Nat) (b:UInt8),pos≤j→j < pos+(Utf8.decode s pos).2→s.data.toList[j]? =some b→128≤b.toNat:=by
 have h0:(s.get! (pos+0)).toNat=(s[pos]'h).toNat:=congrArg UInt8.toNat (get_at s pos h)
 have hn:¬(s[pos]'h).toNat < 128:=by omega
 have base:∀b:UInt8,s.data.toList[pos]? =some b→128≤b.toNat:=by
  intro b hb
  have:=GO s pos h hb
  rw[←this]
  show 128≤(s.get! (pos+0)).toNat
  omega
 have one:pos+1≤s.size∧∀(j:Nat) (b:UInt8),pos≤j→j < pos+1→s.data.toList[j]? =some b→128≤b.toNat:=by
  refine⟨h,fun j b h1 h2 hb=>?_⟩
  obtain rfl:j=pos:=by omega
  exact base b hb
 have cont:∀k,(decide (pos+k < s.size)&&(s.get! (pos+k)).toNat/64==2)=true→pos+k < s.size∧∀b:UInt8,s.data.toList[pos+k]? =some b→128≤b.toNat:=by
  intro k hk
  simp only[Bool.and_eq_true,decide_eq_true_eq,beq_iff_eq] at hk
  refine⟨hk.1,fun b hb=>?_⟩
  have:=GO s (pos+k) hk.1 hb
  rw[this] at hk
  omega
 unfold Utf8.decode
 simp only[h0,hn,if_false]
 split
 ·rename_i h1
  simp only[Bool.and_eq_true] at h1
  obtain⟨c1,d1⟩:=cont 1 (by simpa using h1.2)
  split
  ·refine⟨by show pos+2≤_;omega,fun j b g1 g2 hb=>?_⟩
   have g2':j < pos+2:=g2
   rcases (by omega:j=pos∨j=pos+1) with rfl|rfl
   ·exact base b hb
   ·exact d1 b hb
  ·exact one
 ·split
  ·rename_i h1
   simp only[Bool.and_eq_true] at h1
   obtain⟨c1,d1⟩:=cont 1 (by simpa using h1.1.2)
   obtain⟨c2,d2⟩:=cont 2 (by simpa using h1.2)
   split
   ·refine⟨by show pos+3≤_;omega,fun j b g1 g2 hb=>?_⟩
    have g2':j < pos+3:=g2
    rcases (by omega:j=pos∨j=pos+1∨j=pos+2) with rfl|rfl|rfl
    ·exact base b hb
    ·exact d1 b hb
    ·exact d2 b hb
   ·exact one
  ·split
   ·rename_i h1
    simp only[Bool.and_eq_true] at h1
    obtain⟨c1,d1⟩:=cont 1 (by simpa using h1.1.1.2)
    obtain⟨c2,d2⟩:=cont 2 (by simpa using h1.1.2)
    obtain⟨c3,d3⟩:=cont 3 (by simpa using h1.2)
    split
    ·refine⟨by show pos+4≤_;omega,fun j b g1 g2 hb=>?_⟩
     have g2':j < pos+4:=g2
     rcases (by omega:j=pos∨j=pos+1∨j=pos+2∨j=pos+3) with rfl|rfl|rfl|rfl
     ·exact base b hb
     ·exact d1 b hb
     ·exact d2 b hb
     ·exact d3 b hb
    ·exact one
   ·exact one
theorem LX {s:ByteArray} {i k:Nat} (h:NoAny s.data.toList [47,0] i) (hk:∀(j:Nat) (b:UInt8),i≤j→j < i+k→s.data.toList[j]? =some b→128≤b.toNat):NoAny s.data.toList [47,0] (i+k):=by
 intro j b hj hb
 by_cases hji:j < i
 ·exact h j b hji hb
 ·have:=hk j b (by omega) hj hb
  simp only[List.contains_eq_mem,List.mem_cons,List.not_mem_nil,or_false,decide_eq_false_iff_not,not_or]
  constructor
  ·rintro rfl
   simp at this
  ·rintro rfl
   simp at this
set_option maxRecDepth 1000000 in
theorem y5 (L:Lays.n153 P ρ) (s:ByteArray) (w:World) (h8:s.size≤8):
  Calls P (ρ.f 153) #[.string s,.string ⟨#[47,0]⟩] w fun e w'=>e=.returned (.int .i64 (Lib.indexAny s.data.toList [47,0]))∧Below w.heap.size w w':=by
 have h8z:decide ((8:Int) < (s.size:Int))=false:=decide_eq_false (by omega)
 have mixed:=L.mixed
 have t3:=L.t3;have a3:=L.a3;have z3:=L.z3;have v3:=L.v3
 have t4:=L.t4;have a4:=L.a4;have z4:=L.z4;have v4:=L.v4
 have t5:=L.t5;have a5:=L.a5;have z5:=L.z5;have v5:=L.v5
 have t9:=L.t9;have a9:=L.a9;have z9:=L.z9;have v9:=L.v9
 have t21:=L.t21;have a21:=L.a21;have z21:=L.z21;have v21:=L.v21
 have e152:∀args w,(callFunc (ρ.f 152) args).run P w=.ok (.enter (ρ.f 152) args) w:=enters_of L.f152 (by kernel_rfl) rfl
 have e226:∀args w,(callFunc (ρ.f 226) args).run P w=.ok (.enter (ρ.f 226) args) w:=enters_of L.f226 (by kernel_rfl) rfl
 go_enter L.f153,Body.n153_ntmps ρ
 go_wp2_with (go_at_fn (ρ.f 226);refine (Any.strings_shouldUseASCIISet {L with} _ _).mono ?_;rintro e w' ⟨rfl,hw⟩;rw[hw,h8z])
 go_loopg [9,10] s.size (fun g _ _ wx=>∃i:Nat,i+g=s.size∧wx.heap[w.heap.size]? =some (.stringIter s i)∧Below w.heap.size w wx∧Lib.NoAny s.data.toList [47,0] i)
 case atStart=>exact⟨0,by omega,World.iter_heap _ _ _,xQ _ _ _,Lib.NoAny.zero _ _⟩
 case round=>
  obtain⟨i,hig,hk,hbw,hno⟩:=hrel
  have HN:Aside (Lib.NoAny s.data.toList [47,0] i):=hno
  have HB:Aside (Below w.heap.size w wr):=hbw
  clear hno hbw
  cases gk with
  |zero=>
   obtain rfl:i=s.size:=by omega
   have hnx:=fun ty=>run_next_end_at (P:=P) wr w.heap.size s s.size ty hk (by omega)
   go_wp2
   go_ret
   exact⟨by rw[Lib.indexAny_none (by rw[←Lib.size_eq];exact HN.out)];rfl,HB.out⟩
  |succ g=>
   have hi:i < s.size:=by omega
   obtain⟨x,hx⟩:∃x:UInt8,s[i]'hi=x:=⟨_,rfl⟩
   have hxl:s.data.toList[i]? =some x:=by rw[←hx];exact Lib.data_getElem? s i hi
   by_cases hlow:x.toNat < 128
   ·have hnx:=fun ty=>run_next_ascii_at (P:=P) wr w.heap.size s i ty hk hi (by rw[hx];exact hlow)
    rw[hx] at hnx
    have HK:Aside ((wr.iterAt w.heap.size s (i+1)).heap[w.heap.size]? =some (.stringIter s (i+1))):=iterAt_heap wr _ s i (i+1) hk
    have HB':Aside (Below w.heap.size w (wr.iterAt w.heap.size s (i+1))):=below_iterAt HB.out (Nat.le_refl _) _ _
    have Hx:Aside (s.data.toList[i]? =some x):=hxl
    clear hxl hx
    have hcon:=Lib.contains_iff_indexByte [47,0] x
    have hback:((x.toNat:Int)).toNat.toUInt8=x:=by simp
    cases hin:([47,0]:List UInt8).contains x
    ·rw[hin] at hcon
     have hlt:¬((0:Int)≤Lib.indexByte [47,0] x):=of_decide_eq_false hcon.symm
     clear hcon
     go_wp2_with (go_at_fn (ρ.f 152);refine (Any.strings_IndexRune_ascii {L with} _ _ _ (by omega) (by omega)).mono ?_;rintro e w' ⟨rfl,hw⟩;rw[hw,hback])
     go_roundg g
     case measure=>omega
     case rel=>exact⟨i+1,by omega,HK.out,HB'.out,HN.out.succ Hx.out hin⟩
    ·rw[hin] at hcon
     have hge:(0:Int)≤Lib.indexByte [47,0] x:=of_decide_eq_true hcon.symm
     clear hcon
     go_wp2_with (go_at_fn (ρ.f 152);refine (Any.strings_IndexRune_ascii {L with} _ _ _ (by omega) (by omega)).mono ?_;rintro e w' ⟨rfl,hw⟩;rw[hw,hback])
     go_ret
     exact⟨by rw[Lib.indexAny_hit HN.out Hx.out hin];rfl,HB'.out⟩
   ·have hhi:128≤(s[i]'hi).toNat:=by rw[hx];omega
    have hdh:=decode_high s i hi hhi
    have hsk:=IG s i hi hhi
    have hnx:=fun ty=>run_next_any_at (P:=P) wr w.heap.size s i ty hk hi
    obtain⟨rk,hrk⟩:∃rk,Utf8.decode s i=rk:=⟨_,rfl⟩
    obtain⟨r,k⟩:=rk
    rw[hrk] at hnx hsk hdh
    simp only at hnx hsk hdh
    have HK:Aside ((wr.iterAt w.heap.size s (i+k)).heap[w.heap.size]? =some (.stringIter s (i+k))):=iterAt_heap wr _ s i (i+k) hk
    have HB':Aside (Below w.heap.size w (wr.iterAt w.heap.size s (i+k))):=below_iterAt HB.out (Nat.le_refl _) _ _
    have HNk:Aside (Lib.NoAny s.data.toList [47,0] (i+k)):=LX HN.out hsk.2
    have hle:=hsk.1
    have hlt:w.heap.size < (wr.iterAt w.heap.size s (i+k)).heap.size:=(Array.getElem?_eq_some_iff.1 HK.out).1
    have HL:Aside (w.heap.size < (wr.iterAt w.heap.size s (i+k)).heap.size):=hlt
    clear hsk hx hxl hrk hlt
    go_wp2_with (go_at_fn (ρ.f 152);refine (yE {L with} _ _ (by omega)).mono ?_;rintro e w' ⟨rfl,hw⟩)
    go_roundg (s.size - (i+k))
    case measure=>omega
    case rel=>exact⟨i+k,by omega,(hw.block _ HL.out).trans HK.out,HB'.out.trans (hw.mono HB'.out.size),HNk.out⟩
theorem wI (L:Lays.n150 P ρ) (hv116:∀w,(zeroValue (ρ.t 116)).run P w=.ok (.agg (Array.replicate 256 (.bool false))) w) (hi116:(P.info? (ρ.t 116)).map (·.size)=some 256) (s:ByteArray) (w:World) (hs:s.size < 4294967281):
  Calls P (ρ.f 150) #[.string s,.string ⟨#[47,0]⟩] w fun e w'=>e=.returned (.bool (decide (0≤Lib.indexAny s.data.toList [47,0])))∧Below w.heap.size w w':=by
 have hac:∀(j:Nat) b,(⟨#[47,0]⟩:ByteArray).data.toList[j]? =some b→b.toNat < 128:=by
  intro j b h
  have hm:b∈([47,0]:List UInt8):=List.mem_of_getElem? h
  simp at hm
  rcases hm with rfl|rfl<;>decide
 have c:Calls P (ρ.f 153) #[.string s,.string ⟨#[47,0]⟩] w fun e w'=>e=.returned (.int .i64 (Lib.indexAny s.data.toList [47,0]))∧Below w.heap.size w w':=by
  by_cases h8:s.size≤8
  ·exact y5 {L with} s w h8
  ·refine (Any.strings_IndexAny_long {L with} hv116 hi116 s ⟨#[47,0]⟩ w (by show 2≤2;omega) (by omega) hs (by show 2 < 4294967281;omega) hac).mono fun e w' ⟨h1,h2⟩=>⟨h1,?_⟩
   rw[h2]
   exact ((Below.refl _ _).alloc (Nat.le_refl _) _).alloc (by simp) _
 have t3:=L.t3;have a3:=L.a3;have z3:=L.z3;have v3:=L.v3
 have t4:=L.t4;have a4:=L.a4;have z4:=L.z4;have v4:=L.v4
 have t9:=L.t9;have a9:=L.a9;have z9:=L.z9;have v9:=L.v9
 have e153:∀args w,(callFunc (ρ.f 153) args).run P w=.ok (.enter (ρ.f 153) args) w:=enters_of L.f153 (by kernel_rfl) rfl
 go_enter L.f150,Body.n150_ntmps ρ
 go_wp2_with (go_at_fn (ρ.f 153);refine c.mono ?_;rintro e w' ⟨rfl,hw⟩)
 go_ret
 exact⟨rfl,hw⟩
theorem EO (s:List UInt8):decide (0≤Lib.indexAny s [47,0])=s.any fun b=>b==47||b==0:=by
 induction s with
 |nil=>rfl
 |cons b l ih=>
  unfold Lib.indexAny
  have hc:([47,0]:List UInt8).contains b=(b==47||b==0):=by
   simp only[List.contains_cons,List.contains_nil,Bool.or_false]
  rw[hc,List.any_cons,←ih]
  cases hb:(b==47||b==0)
  ·have hge:=Lib.indexAny_ge [47,0] l
   simp only[Bool.false_eq_true,if_false,Bool.false_or]
   split
   ·rename_i h
    have:=beq_iff_eq.1 h
    simp[this]
   ·rename_i h
    have:¬Lib.indexAny l [47,0]=-1:=fun e=>h (beq_iff_eq.2 e)
    apply decide_eq_decide.2
    omega
  ·simp
end Go.Ab
