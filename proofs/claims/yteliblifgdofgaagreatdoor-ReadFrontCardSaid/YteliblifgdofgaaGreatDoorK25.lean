/- Parts of the proof, one behind the other. No further condition. -/
import Derived.Test.YteliblifgdofgaaGreatDoorK24
import Derived.Test.YteliblifgdofgaaGreatDoorK12
import Derived.Test.YteliblifgdofgaaGreatDoorK21
import Derived.Test.YteliblifgdofgaaGreatDoorK07
import Derived.Test.YteliblifgdofgaaGreatDoorK23
import Derived.Test.YteliblifgdofgaaGreatDoorK22
import Derived.Test.YteliblifgdofgaaGreatDoorK16
import Derived.Test.YteliblifgdofgaaGreatDoorK19
import Derived.Test.YteliblifgdofgaaGreatDoorK18
import Derived.Test.YteliblifgdofgaaGreatDoorK14
import Derived.Test.YteliblifgdofgaaGreatDoorK20
set_option linter.unusedVariables false
set_option linter.unusedSimpArgs false
set_option maxRecDepth 100000
set_option maxHeartbeats 8000000
namespace Go.Proofs.YteliblifgdofgaaGreatDoor
open Go.Ab
theorem aAk {g:FuncId} {M:aG} {id:Nat} {s:Sg} {t:Tr} {o:Oo} {z:Sg×(Int×Int)} (h:aQ Tryz.prog g [.ptr 0 0,o.av] (G6 s t) (WP s z)) (hM:M.get id=some (.cells (DL s t))) (hlt:id < M.next):aQ Tryz.prog g [.ptr id 0,o.av] M fun e N=>∃d,N=M.set id (.cells d)∧WR s z e d:=by
 refine aQ.frame1 id hM hlt (oV s t) h ⟨kP.ptr rfl,kP.closed (fP o),trivial⟩ ?_
 rintro e d ⟨t',h1,rfl,rfl⟩
 refine⟨?_,oV _ _,_,rfl,t',h1,rfl,rfl⟩
 split
 ·next he=>
  split at he<;>cases he
  exact aB
 ·next he=>
  split at he<;>cases he
  exact cI _
def woM (nx:Nat) (d:List AV) (a b:AV):aG:=⟨nx,[(0,.cells d),(1,.cells [a,b])]⟩
theorem a7k (nx:Nat) (d:List AV) (a b:AV) (e:Int):bF Tryz.prog 211 [.ptr 1 0] (.pan (kN e)) (woM nx d a b) (fun m' M'=>m'=.ret∧M'.next=nx∧M'.get 0=some (.cells d)∧M'.get 1=some (.cells [.int .i64 e,.int .i64 0])):=by
 refine bX aF Tryz.func211 rfl (by decide) rfl rfl rfl rfl rfl (by simp[Tryz.f211]) ?_
 refine c4 aF rfl rfl rfl rfl rfl ?_
 repeat' (first|refine zA rfl ?_|refine aA ?_|refine aL rfl ?_)
 exact⟨rfl,⟨_,rfl⟩,rfl,rfl,rfl⟩
theorem a9t (nx:Nat) (d:List AV) (a b:AV):bF Tryz.prog 211 [.ptr 1 0] .ret (woM nx d a b) (fun m' M'=>m'=.ret∧M'.next=nx∧M'.get 0=some (.cells d)∧M'.get 1=some (.cells [a,b])):=by
 refine bX aF Tryz.func211 rfl (by decide) rfl rfl rfl rfl rfl (by simp[Tryz.f211]) ?_
 refine c4 aF rfl rfl rfl rfl rfl ?_
 repeat' (first|refine zA rfl ?_|refine aA ?_|refine aL rfl ?_)
 exact⟨rfl,⟨_,rfl⟩,rfl,rfl,rfl⟩
def woD:bJ:={f:=.func 211,cap:=[.ptr 1 0],args:=[],keep:=[(4,.ptr 1 0)]}
def DR (s:Sg) (z:Sg×(Int×Int)) (e:cH) (d:List AV):Prop:=∃t,t.all=z.1.pairs∧d=DL {z.1 with pairs:=s.pairs} t∧e=.ret (gG z.2)
abbrev DP (s:Sg) (z:Sg×(Int×Int)):cH→aG→Prop:=fun e N=>N.next=3∧∃d,N.get 0=some (.cells d)∧DR s z e d
theorem ZO {M:aG} {a b:AV} {t:List (Nat×AV)} (h4:AF.get ⟨t,[]⟩ 4=.ptr 1 0) (g1:M.get 1=some (.cells [a,b])):i5 iR M ⟨t,[]⟩ Tryz.f167.results=some (.agg [a,b]):=by
 have a1:cX M iR 42 (.ptr 1 0)=some (.agg [a,b]):=by
  simp only[cX,g1]
  rfl
 show i5 iR M ⟨t,[]⟩ #[.cell 4 42]=_
 simp only[i5,t7,mP,h4,a1]
theorem a6t {M:aG} {s:Sg} {z:Sg×(Int×Int)} {u:Tr} {a b:AV} {t:List (Nat×AV)} (hu:u.all=z.1.pairs) (hz:z.2.2=0) (hn:M.next=3) (h:(woM M.next (DL {z.1 with pairs:=s.pairs} u) a b).le M) (h4:AF.get ⟨t,[]⟩ 4=.ptr 1 0):eF Tryz.prog iR Tryz.f167 ⟨t,[]⟩ (DP s z) [woD] (.pan (kN z.2.1)) M:=by
 refine⟨rfl,211,rfl,bF.le h (bF.mono (a7k M.next _ a b z.2.1) ?_)⟩
 rintro m' M' ⟨rfl,g,g0,g1⟩
 refine⟨_,ZO h4 g1,g.trans hn,_,g0,u,hu,rfl,?_⟩
 obtain⟨x,c,n⟩:=z
 cases hz
 rfl
theorem a5m {M:aG} {s:Sg} {z:Sg×(Int×Int)} {u:Tr} {t:List (Nat×AV)} (hu:u.all=z.1.pairs) (hz:z.2.1=0) (hn:M.next=3) (h:(woM M.next (DL {z.1 with pairs:=s.pairs} u) (.int .i64 0) (.int .i64 z.2.2)).le M) (h4:AF.get ⟨t,[]⟩ 4=.ptr 1 0):eF Tryz.prog iR Tryz.f167 ⟨t,[]⟩ (DP s z) [woD] .ret M:=by
 refine⟨rfl,211,rfl,bF.le h (bF.mono (a9t M.next _ _ _) ?_)⟩
 rintro m' M' ⟨rfl,g,g0,g1⟩
 refine⟨_,ZO h4 g1,g.trans hn,_,g0,u,hu,rfl,?_⟩
 obtain⟨x,c,n⟩:=z
 cases hz
 rfl
theorem a0v (s:Sg) (t:Tr) (c q k se at_:Int) (ch:List Ch) (z:Sg×(Int×Int)) (hz:z.2.1≠0→z.2.2=0)
  (g:FuncId) (hk:(k=1∧g=212)∨(k=2∧g=213)∨(k=3∧g=214)∨(k=4∧g=215))
  (kd:aQ Tryz.prog g [.ptr 0 0,Oo.av ⟨c,q,k,se,at_,ch⟩] (G6 s t) (WP s z)):aQ Tryz.prog 167 [.ptr 0 0,Oo.av ⟨c,q,k,se,at_,ch⟩] (G6 s t) (DP s z):=by
 refine fC aF Tryz.func167 rfl (by decide) (by simp[Tryz.f167]) ?_
 unfold G6
 repeat' (first|refine zA rfl ?_|refine aA ?_|refine aL rfl ?_)
 refine eB ?_
 refine GG rfl rfl lZ ?_
 refine eQ rfl rfl rfl rfl [(4,.ptr 1 0)] ?_ ?_
 ·intro p hp
  simp only[List.mem_cons,List.not_mem_nil,or_false] at hp
  rcases hp with rfl<;>rfl
 refine i7 ?_
 refine W.le (g:=⟨[(0,.ptr 0 0),(3,.ref (Oo.cells ⟨c,q,k,se,at_,ch⟩)),(4,.ptr 1 0)],[woD]⟩) (N:=⟨2,[(0,.cells (DL s t)),(1,.cells [.int .i64 0,.int .i64 0])]⟩) ?_ ?_ ?_
 ·repeat (refine AF.le_cons rfl ?_)
  exact AF.le_nil rfl
 ·exact aG.le_cons rfl (aG.le_cons rfl (aG.le_nil rfl))
 rcases hk with ⟨rfl,rfl⟩|⟨rfl,rfl⟩|⟨rfl,rfl⟩|⟨rfl,rfl⟩
 all_goals
  repeat' (first|refine zA rfl ?_|refine aA ?_|refine aL rfl ?_|refine aW mixed [0,1,2,3,4,5,6,7] [.R,.R,.R,.R,.R,.E,.P,.E] rfl rfl (by kernel_rfl) ?_)
  refine bS rfl rfl (aAk kd rfl (by show 0 < 3;decide)) ?_ ?_
  ·rintro u N ⟨d,rfl,t',h1,rfl,h2⟩
   by_cases h0:z.2.1=0
   ·rw[if_pos h0] at h2
    cases h2
    repeat' (first|refine zA rfl ?_|refine aA ?_|refine aL rfl ?_)
    exact a5m h1 h0 rfl (aG.le_cons rfl (aG.le_cons rfl (aG.le_nil rfl))) rfl
   ·rw[if_neg h0] at h2
    cases h2
  ·rintro u N ⟨d,rfl,t',h1,rfl,h2⟩
   by_cases h0:z.2.1=0
   ·rw[if_pos h0] at h2
    cases h2
   ·rw[if_neg h0] at h2
    cases h2
    exact a6t h1 (hz h0) rfl (aG.le_cons rfl (aG.le_cons rfl (aG.le_nil rfl))) rfl
end Go.Proofs.YteliblifgdofgaaGreatDoor
namespace Go.Ab
open Go.RowKit
def YF (P:Program) (g:FuncId) (args:List AV) (M:aG) (r:AV):Prop:=
 ∀(μ:Mu) (F:c8) (w:World) (vs:Array Value),dY μ F M w→cN μ F w args vs→∃v,(callFunc g vs).run P w=.ok (.value v) w∧bP μ F w r v
theorem FW {P:Program} {x:Operand} {ags:Array Operand} {ts:Array TypeId} {ty:TypeId} {ρ:Operand→AV} {M:aG} {g:FuncId} {r:AV} (hx:ρ x=.fn (.func g) [] []) (h:YF P g (ags.toList.map ρ) M r):
  wR P (.call {callee:=.value x,args:=ags,argTypes:=ts}) ty ρ M r:=by
 intro μ F w ρc o hg ho ht hr
 have hv:=hr x (by simp[Op.operands,Call.operands])
 rw[hx] at hv
 obtain⟨c1,c2,he,hs1,hs2,f1,f2⟩:=hv.fn_inv
 have e1:c1=#[]:=by simpa using hs1
 have e2:c2=#[]:=by simpa using hs2
 subst e1
 subst e2
 have hargs:cN μ F w (ags.toList.map ρ) (ags.map ρc):=cN.map fun y hy=>hr y (by simp[Op.operands,Call.operands,hy])
 obtain⟨v,h1,h2⟩:=h μ F w _ hg hargs
 refine⟨v,w,?_,Below.refl _ _,h2⟩
 simp[execOp,ho,resolve,he,Deferred.ofValue,invoke,h1]
theorem a1y {P:Program} {ops:Array Oper} {cls:Nat→fQ} {Q:AX→AF→aG→Prop} {ds:List bJ} {l:List Nat} {i:Nat} {o:Oper} {t:List (Nat×AV)} {M:aG} {d:Nat} (hi:ops[i]? =some o) (hw:aT ops ⟨t,ds⟩ o=some true) (hd:o.dst=some d) (hk:pG (cls i)=true)
  {y:Operand} {ags:Array Operand} {ts:Array TypeId} (ho:o.op=.call {callee:=.value y,args:=ags,argTypes:=ts}) {g:FuncId} (hx:AF.ev ⟨t,ds⟩ y=.fn (.func g) [] []) {x:AV} (hc:YF P g (ags.toList.map (AF.ev ⟨t,ds⟩)) M x)
  (h:DW P ops cls Q ds l ((d,x)::t) M):DW P ops cls Q ds (i::l) t M:=
 jY hi hw hd hk (by rw[ho];exact FW hx hc) h
theorem qU {P:Program} {w:World} {t e:TypeId} {ps rs:Array TypeId} {i:TypeInfo} (h0:ps[0]? =some t) (hu:P.underlying t=some (.slice e)) (hi:P.info? e=some i) (A:Option Addr) (b:Addr) (la ca lb cb:Nat) {cb':Array Value} {tb:TypeId} (hb:w.heap[b.block]? =some (.cells cb' tb (0,0)))
  (hA:0 < la→∃a v,A=some a∧a.block≠b.block∧w.cell? a=some v):
  (Extern.SlicesOverlaps.overlaps ps rs #[.slice A la ca,.slice (some b) lb cb]).run P w=.ok (.bool false) w:=by
 unfold Extern.SlicesOverlaps.overlaps
 rw[show ∀h1 h2,Extern.SlicesOverlaps.overlaps.match_4 (fun _=>Sem Value) #[.slice A la ca,.slice (some b) lb cb] h1 h2=h1 A la ca (some b) lb cb from fun _ _=>rfl]
 cases A with
 |none=>simp[h0,run_underlying hu,sizeOf,typeInfo,hi]
 |some a=>
  by_cases hz:la=0∨lb=0∨i.size=0
  ·simp[h0,run_underlying hu,sizeOf,typeInfo,hi,hz]
  ·obtain⟨a',v,e,hne,hc⟩:=hA (by omega)
   cases e
   have hsh:∃c ta fa,w.heap[a.block]? =some (.cells c ta fa)∧0 < c.size:=by
    unfold World.cell? at hc
    split at hc
    ·rename_i c ta fa hh
     refine⟨c,ta,fa,hh,?_⟩
     split at hc
     ·cases hc
     ·have:=(Array.getElem?_eq_some_iff.1 hc).1
      omega
    ·cases hc
   obtain⟨c,ta,⟨lo,hi'⟩,hh,hpos⟩:=hsh
   have hcs:¬c.size=0:=by omega
   have fb:w.frozen? b=false:=by simp[World.frozen?,hb]
   have fb2:∀n,w.frozen? {block:=b.block,off:=n}=false:=by simp[World.frozen?,hb]
   have sa:w.shape? a.block=some (ta,c.size):=by simp[World.shape?,hh]
   have sb:w.shape? b.block=some (tb,cb'.size):=by simp[World.shape?,hb]
   cases fa:w.frozen? a<;>cases fa2:w.frozen? {block:=a.block,off:=c.size}<;>simp[h0,run_underlying hu,sizeOf,typeInfo,hi,hz,hne,fa,fa2,fb,fb2,noView,viewAt,sa,sb,mayBeOne,stringish,hcs]
theorem a5q {P:Program} {τ:Tab} {ops:Array Oper} {cls:Nat→fQ} {Q:AX→AF→aG→Prop} {ds:List bJ} {ls:List Nat} {i:Nat} {o:Oper} {t:List (Nat×AV)} {M:aG} (hτ:TabOK P τ) (hi:ops[i]? =some o) (hw:aT ops ⟨t,ds⟩ o=some true) (hd:o.dst=none) (hc:n7 (cls i)=true) {ty:TypeId} {x y:Operand} (ho:o.op=.store ty x y) {id off:Nat} {l:List AV} {z:AV}
  (hx:AF.ev ⟨t,ds⟩ x=.ptr id off) (hy:AF.ev ⟨t,ds⟩ y=z) {ti:TI} (ht:aJ τ ty=some ti) (hz:z.solid=true) (hzc:z.cells.length=ti.size) (hM:M.get id=some (.cells l)) (hl:off+ti.size≤l.length)
  (h:DW P ops cls Q ds ls t (M.set id (.cells (b9 l off z.cells)))):DW P ops cls Q ds (i::ls) t M:=by
 subst hy
 exact EM hi hw hd hc (x:=.top) (by rw[ho];exact uR hτ ht hx hM hz hzc hl) h
end Go.Ab
namespace Go.Proofs.YteliblifgdofgaaGreatDoor
open Go.Ab
theorem nV {cells xs:List AV} {sz i:Nat} (hs:∀x,x∈xs→x.cells.length=sz) (hx:cells.take (xs.length*sz)=b8 xs) (hi:i≤xs.length):(cells.drop (i*sz)).take ((xs.length - i)*sz)=b8 (xs.drop i)∧cells.take (i*sz)=b8 (xs.take i)∧(b8 (xs.drop i)).length=(xs.length - i)*sz:=by
 have e1:(xs.length - i)*sz=xs.length*sz - i*sz:=Nat.sub_mul _ _ _
 refine⟨by rw[e1,←List.drop_take,hx,uT i hs],?_,?_⟩
 ·rw[←uX i hs,←hx,List.take_take,Nat.min_eq_left (Nat.mul_le_mul_right _ hi)]
 ·rw[bZ fun x hx=>hs x (List.mem_of_mem_drop hx),List.length_drop]
theorem KE {l cells xs xc:List AV} {sz i:Nat} (hs:∀x,x∈xs→x.cells.length=sz) (hx:cells.take (xs.length*sz)=b8 xs) (hi:i≤xs.length) (hc:xc.length=sz) (hl:(xs.length+1)*sz≤l.length) (ht:l.take (i*sz)=cells.take (i*sz)):
  (b9 (b9 l (i*sz) xc) ((i+1)*sz) (b8 (xs.drop i))).take ((xs.length+1)*sz)=b8 (xs.take i)++xc++b8 (xs.drop i):=by
 obtain⟨_,h2,h3⟩:=nV hs hx hi
 have e1:(xs.length+1)*sz=(i+1)*sz+(b8 (xs.drop i)).length:=by
  rw[h3,←Nat.add_mul]
  congr 1
  omega
 have e2:(i+1)*sz=i*sz+xc.length:=by rw[hc,Nat.add_mul];omega
 rw[e1,i4 (by rw[bO];omega)]
 congr 1
 rw[e2,i4 (by omega),ht,h2]
theorem L6 {cells xs xc:List AV} {sz i:Nat} (hs:∀x,x∈xs→x.cells.length=sz) (hx:cells.take (xs.length*sz)=b8 xs) (hi:i≤xs.length) (hc:xc.length=sz) (hl:(xs.length+1)*sz≤cells.length):
  (b9 (b9 cells ((i+1)*sz) (b8 (xs.drop i))) (i*sz) xc).take ((xs.length+1)*sz)=b8 (xs.take i)++xc++b8 (xs.drop i):=by
 obtain⟨_,h2,h3⟩:=nV hs hx hi
 have e1:(xs.length+1)*sz=(i+1)*sz+(b8 (xs.drop i)).length:=by
  rw[h3,←Nat.add_mul]
  congr 1
  omega
 have e2:(i+1)*sz=i*sz+xc.length:=by rw[hc,Nat.add_mul];omega
 have e3:=i4 (l:=cells) (n:=(i+1)*sz) (cs:=b8 (xs.drop i)) (by omega)
 have e4:(b9 cells ((i+1)*sz) (b8 (xs.drop i))).take (i*sz)=b8 (xs.take i):=by
  rw[pP (by omega) (by omega),h2]
 rw[e1]
 have hlen:(b9 cells ((i+1)*sz) (b8 (xs.drop i))).length=cells.length:=bO _ _ _
 generalize b9 cells ((i+1)*sz) (b8 (xs.drop i))=m at e3 e4 hlen ⊢
 rw[qX (by omega),e4,e2,List.append_assoc,List.append_assoc]
 have a1:(b8 (xs.take i)).length=i*sz:=by rw[←h2,List.length_take];omega
 have a2:i*sz+xc.length+(b8 (xs.drop i)).length=(b8 (xs.take i)).length+(xc.length+(b8 (xs.drop i)).length):=by omega
 rw[a2,List.take_length_add_append,List.take_length_add_append,←e2]
 congr 2
 have:=congrArg (List.drop ((i+1)*sz)) e3
 rw[List.drop_take,Nat.add_sub_cancel_left,List.drop_left' (by rw[List.length_take];omega)] at this
 exact this
theorem C1 (l:List Sn) (hl:l.length < 1000000) (hne:l≠[]) (M:aG):aQ Tryz.prog 210 [cU l .none] M (fun e N=>∃cap cells,e=.ret (.osl M.next 0 l.length cap 4)∧N=M.push (.cells cells)∧l.length≤cap∧cells.length=cap*4∧cells.take (l.length*4)=b8 (l.map Sn.av)):=by
 refine aC aF Tryz.func210 rfl (by decide) (by simp[Tryz.f210]) ?_
 unfold cU
 repeat' (first|refine zA rfl ?_|refine aA ?_|refine aL rfl ?_)
 refine iZ rfl rfl ?_
 intro b hb
 cases b
 ·have hm:l.map Sn.av≠[]:=fun e=>hne (by simpa using e)
  have le:(l.map Sn.av).length=l.length:=by simp
  repeat' (first|refine zA rfl ?_|refine aA ?_|refine aL rfl ?_|refine zR rfl ?_)
  refine s4 aF rfl rfl rfl rfl rfl rfl rfl rfl rfl rfl rfl (.inr rfl) rfl rfl hm (by simp;omega) (by simp;omega) ?_
  intro cap' l' g1 g2 g3
  repeat' (first|refine zA rfl ?_|refine aA ?_|refine aL rfl ?_)
  rw[le] at g1 g3
  refine⟨rfl,_,rfl,cap',l',?_,rfl,by simpa using g1,g2,?_⟩
  ·rw[le]
   simp
   rfl
  ·simpa [b8] using g3
 ·exact absurd (hb fun e=>hne (by simpa using e)) (by simp)
theorem MP (M:aG):aQ Tryz.prog 210 [cU [] .none] M (fun e N=>∃sz,e=.ret (.sl sz [] .full)∧N=M):=by
 refine aC aF Tryz.func210 rfl (by decide) (by simp[Tryz.f210]) ?_
 unfold cU
 repeat' (first|refine zA rfl ?_|refine aA ?_|refine aL rfl ?_)
 refine iZ rfl rfl ?_
 intro b hb
 cases b
 ·repeat' (first|refine zA rfl ?_|refine aA ?_|refine aL rfl ?_|refine zR rfl ?_)
  refine PK aF rfl rfl rfl rfl rfl rfl rfl rfl rfl rfl rfl rfl ?_
  repeat' (first|refine zA rfl ?_|refine aA ?_|refine aL rfl ?_)
  exact⟨rfl,_,rfl,_,rfl,rfl⟩
 ·repeat' (first|refine zA rfl ?_|refine aA ?_|refine aL rfl ?_)
  exact⟨rfl,_,rfl,_,rfl,rfl⟩
theorem R7 (x:Sn) {M:aG} {id off n cap:Nat} {cells:List AV} (hM:M.get id=some (.cells cells)):YF Tryz.prog 279 [.sl 4 [x.av] .full,.osl id off n cap 4] M (.bool false):=by
 intro μ F w vs hg hv
 obtain⟨hl,hr⟩:=hv
 match vs,hl with
 |⟨[a,b]⟩,_=>
  have h1:=hr 0 _ a rfl rfl
  have h2:=hr 1 _ b rfl rfl
  obtain⟨blk,hb,rfl⟩:=eK hg hM h2
  obtain⟨b',c,tb,hb1,hb2,_⟩:=hg.obj id cells hM
  rw[hb] at hb1
  cases hb1
  obtain⟨A,capx,b',o,vals,rfl,hsz,hcap,hA,hat,_⟩:=h1.sl_flat
  have h0:=hat 0 (.int .i64 x.client) rfl
  refine⟨_,?_,.bool _⟩
  have:=run_callFunc_extern (P:=Tryz.prog) Tryz.func279 (by kernel_rfl) (by kernel_rfl) (by kernel_rfl) (e:=Extern.SlicesOverlaps.overlaps #[78,78] #[4]) (by kernel_rfl) #[.slice A [x.av].length capx,.slice (some ⟨blk,off,none⟩) n cap] w
  obtain⟨ft,dt,zt,HT⟩:=TI.spec aF (t:=78) rfl
  obtain⟨fe,de,ze,HE⟩:=TI.spec aF (t:=154) rfl
  rw[qU (t:=78) (e:=154) rfl Tryz.underlying78 HE.info A ⟨blk,off,none⟩ _ _ _ _ hb2 (fun _=>⟨⟨b',o,none⟩,vals 0,hA (by simp),?_,h0.cell⟩)] at this
  ·exact this
  ·rintro rfl
   exact h0.free.2 ⟨id,.inl hb⟩
def a9r (xs:List AV) (i:Nat) (x:Sn) (e:cH) (N:aG):Prop:=∃(id' cap':Nat) (cells':List AV),e=.ret (.osl id' 0 (xs.length+1) cap' 4)∧N.get id'=some (.cells cells')∧xs.length+1≤cap'∧cells'.length=cap'*4∧cells'.take ((xs.length+1)*4)=b8 (xs.take i)++x.av.cells++b8 (xs.drop i)
theorem NS (M:aG) (id cap i:Nat) (cells xs:List AV) (x:Sn) (hid:id < M.next) (hM:M.get id=some (.cells cells)) (hs:∀x,x∈xs→x.cells.length=4) (hx:cells.take (xs.length*4)=b8 xs) (hc:xs.length≤cap) (hl:cells.length=cap*4) (hi:i≤xs.length) (hsz:xs.length < 1000000):
  aQ Tryz.prog 220 [.osl id 0 xs.length cap 4,.int .i64 (i:Int),.sl 4 [x.av] .full] M (a9r xs i x):=by
 refine aC aF Tryz.func220 rfl (by decide) (by simp[Tryz.f220]) ?_
 obtain⟨p1,p2,p3⟩:=nV hs hx hi
 have d0:decide ((([x.av].length:Nat):Int)=0)=false:=rfl
 have hxc:x.av.cells.length=4:=rfl
 have hfx:b8 [x.av]=x.av.cells:=by simp[b8]
 repeat' (first|refine zA rfl ?_|refine aA ?_|refine aL rfl ?_)
 refine gA aF rfl rfl rfl rfl rfl rfl rfl rfl rfl rfl hM rfl rfl hi hc rfl rfl rfl ?_
 repeat' (first|refine zB rfl d0 ?_|refine zA rfl ?_|refine aA ?_|refine aL rfl ?_)
 refine p7 aF rfl rfl rfl rfl rfl rfl hM rfl rfl ?_
 by_cases h1:i=xs.length
 ·have d1:decide ((i:Int)=(xs.length:Int))=true:=decide_eq_true (by omega)
  repeat' (first|refine zB rfl (by first|exact d0|exact d1) ?_|refine zA rfl ?_|refine aA ?_|refine aL rfl ?_)
  refine m0 aF rfl rfl rfl rfl rfl (l:=cells) rfl hM rfl rfl rfl rfl rfl rfl rfl rfl hl hc (by simp;omega) (by simp;omega) ?_
  intro cap' l' g1 g2 g3
  repeat' (first|refine zA rfl ?_|refine aA ?_|refine aL rfl ?_)
  subst h1
  refine⟨rfl,_,rfl,_,cap',l',rfl,gM,g1,g2,?_⟩
  rw[List.take_length,List.drop_length,←hx]
  simpa [b8] using g3
 ·have d1:decide ((i:Int)=(xs.length:Int))=false:=decide_eq_false (by omega)
  have f1:=aZ (i:=xs.length) (by omega)
  by_cases h2:cap < xs.length+1
  ·have d2:decide (((xs.length+1:Nat):Int) > (cap:Int))=true:=decide_eq_true (by omega)
   have f2:IntKind.wrap .i64 (((xs.length+1:Nat):Int) - (i:Int))=((xs.length+1 - i:Nat):Int):=by
    rw[Go.Ab.wrap_small (i:=((xs.length+1:Nat):Int) - (i:Int)) (by omega) (by omega)]
    omega
   have f3:=aZ (i:=i) (by omega)
   repeat' (first|refine zB rfl (by first|exact d0|exact d1) ?_|refine zI rfl f1 ?_|refine zA rfl ?_|refine aA ?_|refine aL rfl ?_)
   refine OV aF rfl rfl rfl rfl rfl rfl hM rfl rfl ?_
   repeat' (first|refine zB rfl (by first|exact d0|exact d2) ?_|refine zA rfl ?_|refine aA ?_|refine aL rfl ?_)
   refine gA aF rfl rfl rfl rfl rfl rfl rfl rfl rfl rfl hM rfl rfl (Nat.zero_le i) (by omega) (off':=0) (by split<;>rfl) (Nat.sub_zero _) (Nat.sub_zero _) ?_
   repeat' (first|refine zI rfl (by first|exact f1|exact f2) ?_|refine zA rfl ?_)
   refine WG aF rfl rfl rfl rfl rfl rfl rfl rfl rfl rfl rfl rfl rfl rfl hM hl (by omega) (by omega) (by omega) (by simp;omega) (by omega) ?_
   intro cap' l' g1 g2 g3
   have hn:i+(xs.length+1 - i)=xs.length+1:=by omega
   rw[hn] at g1 ⊢
   have hM2:(M.push (.cells l')).get M.next=some (.cells l'):=gM
   have hM3:(M.push (.cells l')).get id=some (.cells cells):=by rw[aG.get_push,if_neg (by omega)];exact hM
   have hne:id≠M.next:=by omega
   generalize M.push (.cells l')=M2 at hM2 hM3
   generalize M.next=id2 at hM2 hne
   repeat' (first|refine zA rfl ?_|refine aA ?_|refine aL rfl ?_)
   refine gA aF rfl rfl rfl rfl rfl rfl rfl rfl rfl rfl hM2 rfl rfl (by omega) g1 (off':=i*4) (by rw[if_pos (by omega),Nat.zero_add]) rfl rfl ?_
   repeat' (first|refine zA rfl ?_)
   refine nT aF rfl rfl rfl rfl rfl rfl rfl rfl rfl rfl hM2 (by omega) (m:=1) (k:=1) (.inl ⟨_,_,rfl,rfl,rfl,fun y hy=>by simp at hy;rw[hy];rfl⟩) (Nat.min_eq_left (by omega)) (cs':=x.av.cells) (by simp[b8];rfl) ?_
   have hM4:(M2.set id2 (.cells (b9 l' (i*4) x.av.cells))).get id2=some (.cells (b9 l' (i*4) x.av.cells)):=cM
   have hM5:(M2.set id2 (.cells (b9 l' (i*4) x.av.cells))).get id=some (.cells cells):=by rw[aG.get_set,if_neg hne];exact hM3
   have hl2:(b9 l' (i*4) x.av.cells).length=cap'*4:=by rw[bO,g2]
   have hfin:=KE hs hx hi hxc (by omega) g3
   generalize M2.set id2 (.cells (b9 l' (i*4) x.av.cells))=M4 at hM4 hM5
   generalize b9 l' (i*4) x.av.cells=l4 at hM4 hl2 hfin
   repeat' (first|refine zI rfl (by first|exact f1|exact f3) ?_|refine zA rfl ?_|refine aA ?_|refine aL rfl ?_|refine aW mixed [0,1,2,3,5,6,4,7,8] [.P,.P,.P,.P,.R,.P,.P,.R,.E] rfl rfl (by kernel_rfl) ?_)
   refine gA aF rfl rfl rfl rfl rfl rfl rfl rfl rfl rfl hM4 rfl rfl (by omega) g1 (off':=(i+1)*4) (by rw[if_pos (by omega),Nat.zero_add]) rfl rfl ?_
   skip
   refine gA aF rfl rfl rfl rfl rfl rfl rfl rfl rfl rfl hM5 rfl rfl hi hc (off':=i*4) (by rw[if_pos (by omega),Nat.zero_add]) rfl rfl ?_
   skip
   refine nT aF rfl rfl rfl rfl rfl rfl rfl rfl rfl rfl hM4 (by omega) (k:=xs.length - i) (.inr ⟨_,_,_,_,rfl,hM5,by omega,rfl⟩) (Nat.min_eq_left (by omega)) (cs':=b8 (xs.drop i)) (by rw[p1,←p3,List.take_length]) ?_
   repeat' (first|refine zA rfl ?_|refine aA ?_|refine aL rfl ?_)
   exact⟨rfl,_,rfl,_,cap',_,rfl,cM,g1,by rw[bO,hl2],hfin⟩
  ·have d2:decide (((xs.length+1:Nat):Int) > (cap:Int))=false:=decide_eq_false (by omega)
   have f3:=aZ (i:=i) (by omega)
   repeat' (first|refine zB rfl (by first|exact d0|exact d1) ?_|refine zI rfl f1 ?_|refine zA rfl ?_|refine aA ?_|refine aL rfl ?_)
   refine OV aF rfl rfl rfl rfl rfl rfl hM rfl rfl ?_
   repeat' (first|refine zB rfl (by first|exact d0|exact d2) ?_|refine zI rfl f1 ?_|refine zA rfl ?_|refine aA ?_|refine aL rfl ?_)
   refine gA aF rfl rfl rfl rfl rfl rfl rfl rfl rfl rfl hM rfl rfl (Nat.zero_le _) (by omega) (off':=0) (by split<;>rfl) (Nat.sub_zero _) (Nat.sub_zero _) ?_
   repeat' (first|refine zI rfl (by first|exact f1|exact f3) ?_|refine zA rfl ?_|refine aA ?_|refine aL rfl ?_)
   refine gA aF rfl rfl rfl rfl rfl rfl rfl rfl rfl rfl hM rfl rfl (by omega) (by omega) rfl rfl rfl ?_
   skip
   refine a1y rfl rfl rfl rfl rfl rfl (R7 x hM) ?_
   repeat' (first|refine zI rfl (by first|exact f1|exact f3) ?_|refine zA rfl ?_|refine aA ?_|refine aL rfl ?_|refine aW mixed [0,1,2,3,5,6,4,7,8] [.P,.P,.P,.P,.R,.P,.P,.R,.E] rfl rfl (by kernel_rfl) ?_)
   refine gA aF rfl rfl rfl rfl rfl rfl rfl rfl rfl rfl hM rfl rfl (by omega) (by omega) (off':=(i+1)*4) (by rw[if_pos (by omega),Nat.zero_add]) (n':=xs.length - i) (by omega) rfl ?_
   skip
   refine gA aF rfl rfl rfl rfl rfl rfl rfl rfl rfl rfl hM rfl rfl (by omega) (by omega) (off':=i*4) (by rw[if_pos (by omega),Nat.zero_add]) rfl rfl ?_
   skip
   have e8:(xs.length - i)*4≤(xs.length+1 - i)*4:=Nat.mul_le_mul_right _ (by omega)
   refine nT aF rfl rfl rfl rfl rfl rfl rfl rfl rfl rfl hM (by omega) (k:=xs.length - i) (.inr ⟨_,_,_,_,rfl,hM,by omega,rfl⟩) (Nat.min_eq_right (by omega)) (cs':=b8 (xs.drop i)) (by rw[List.take_take,Nat.min_eq_left e8,p1]) ?_
   have hM4:(M.set id (.cells (b9 cells ((i+1)*4) (b8 (xs.drop i))))).get id=some (.cells (b9 cells ((i+1)*4) (b8 (xs.drop i)))):=cM
   have hl2:(b9 cells ((i+1)*4) (b8 (xs.drop i))).length=cap*4:=by rw[bO,hl]
   have hfin:=L6 hs hx hi hxc (by omega)
   generalize M.set id (.cells (b9 cells ((i+1)*4) (b8 (xs.drop i))))=M4 at hM4
   generalize b9 cells ((i+1)*4) (b8 (xs.drop i))=l4 at hM4 hl2 hfin
   repeat' (first|refine zA rfl ?_|refine aA ?_|refine aL rfl ?_)
   refine gA aF rfl rfl rfl rfl rfl rfl rfl rfl rfl rfl hM4 rfl rfl (by omega) (by omega) (off':=i*4) (by rw[if_pos (by omega),Nat.zero_add]) rfl rfl ?_
   repeat' (first|refine zA rfl ?_)
   refine nT aF rfl rfl rfl rfl rfl rfl rfl rfl rfl rfl hM4 (by omega) (m:=1) (k:=1) (.inl ⟨_,_,rfl,rfl,rfl,fun y hy=>by simp at hy;rw[hy];rfl⟩) (Nat.min_eq_left (by omega)) (cs':=x.av.cells) (by simp[b8];rfl) ?_
   repeat' (first|refine zA rfl ?_|refine aA ?_|refine aL rfl ?_)
   exact⟨rfl,_,rfl,_,cap,_,rfl,cM,by omega,by rw[bO,hl2],hfin⟩
theorem x6 {N:aG} {x:AV} {m:List Sn} {n:Int} (h:eU 0 N x (cU m .none)):eU 0 N (.tup [x,.int .i64 n]) (saA (m,n)):=by
 refine .tup _ _ rfl fun i a b ha hb=>?_
 match i,ha,hb with
 |0,ha,hb=>cases ha;cases hb;exact h
 |1,ha,hb=>cases ha;cases hb;exact .closed aB
 |i+2,ha,hb=>simp at ha
theorem P2 (l:List Sn):∀x,x∈l.map Sn.av→x.cells.length=4:=fun x hx=>by
 obtain⟨p,_,rfl⟩:=List.mem_map.1 hx
 rfl
theorem QC (l:List Sn):∀x,x∈l.map Sn.av→∃cs,x=.agg cs∧cs.length=4∧∀c,c∈cs→aN c:=fun x hx=>by
 obtain⟨p,_,rfl⟩:=List.mem_map.1 hx
 exact⟨_,rfl,rfl,rJ p⟩
theorem RK {cells xs xc:List AV} {sz i:Nat} (hs:∀x,x∈xs→x.cells.length=sz) (hx:cells.take (xs.length*sz)=b8 xs) (hi:i < xs.length) (hc:xc.length=sz) (hl:xs.length*sz≤cells.length):
  (b9 cells (i*sz) xc).take (xs.length*sz)=b8 (xs.take i)++xc++b8 (xs.drop (i+1)):=by
 obtain⟨p1,_,p3⟩:=nV (i:=i+1) hs hx hi
 obtain⟨_,p2,_⟩:=nV (i:=i) hs hx (by omega)
 have e2:(i+1)*sz=i*sz+xc.length:=by rw[hc,Nat.add_mul];omega
 have e5:(i+1)*sz≤xs.length*sz:=Nat.mul_le_mul_right _ hi
 have e1:xs.length*sz=(b8 (xs.take i)).length+(xc.length+(xs.length - (i+1))*sz):=by
  have a1:(b8 (xs.take i)).length=i*sz:=by rw[←p2,List.length_take];omega
  rw[a1,←Nat.add_assoc,←e2,←Nat.add_mul]
  congr 1
  omega
 rw[qX (by omega),p2,←e2,List.append_assoc,List.append_assoc,e1,List.take_length_add_append,List.take_length_add_append,p1]
theorem uZ {N:aG} {id cap n:Nat} {cells:List AV} {m:List Sn} (hM:N.get id=some (.cells cells)) (hn:m.length=n) (hx:cells.take (n*4)=b8 (m.map Sn.av)) (hc:n≤cap) (hl:cells.length=cap*4):eU 0 N (.osl id 0 n cap 4) (cU m .none):=by
 subst hn
 have el:(m.map Sn.av).length=m.length:=by simp
 have:=yR (sz:=4) (cap:=cap) (xs:=m.map Sn.av) hM (by rw[el];exact hx) (by omega) hl (QC m)
 rw[el] at this
 exact this
theorem xE (l:List Sn) (s:Sn) (i k:Nat):b8 ((l.map Sn.av).take i)++s.av.cells++b8 ((l.map Sn.av).drop k)=b8 ((l.take i++s::l.drop k).map Sn.av):=by
 rw[List.map_append,fA,List.map_cons,List.map_take,List.map_drop,List.append_assoc]
 rfl
theorem HY (M:aG) (x:Sn):aQ Tryz.prog 220 [.sl 4 [] .full,.int .i64 ((0:Nat):Int),.sl 4 [x.av] .full] M (a9r [] 0 x):=by
 refine aC aF Tryz.func220 rfl (by decide) (by simp[Tryz.f220]) ?_
 have d0:decide ((([x.av].length:Nat):Int)=0)=false:=rfl
 have d1:decide (((0:Nat):Int)=(([]:List AV).length:Int))=true:=rfl
 have hs0:(0:Int)≤((0:Nat):Int)∧((0:Nat):Int)≤(([]:List AV).length:Int)∧(([]:List AV).length:Int)≤(([]:List AV).length:Int)∧((([]:List AV).take (([]:List AV).length:Int).toNat).drop ((0:Nat):Int).toNat)=[]:=⟨Int.le_refl _,Int.le_refl _,Int.le_refl _,rfl⟩
 repeat' (first|refine zB rfl (by first|exact d0|exact d1) ?_|refine zA rfl ?_|refine aA ?_|refine aL rfl ?_|refine m7 aF rfl (hs0) ?_)
 refine s4 aF rfl rfl rfl rfl rfl rfl rfl rfl rfl rfl rfl (.inr rfl) rfl rfl (by simp) (by simp) (by simp) ?_
 intro cap' l' g1 g2 g3
 repeat' (first|refine zA rfl ?_|refine aA ?_|refine aL rfl ?_)
 exact⟨rfl,_,rfl,_,cap',l',rfl,gM,by simpa using g1,g2,by simpa [b8] using g3⟩
theorem YV (l:List Sn) (s:Sn) (hl:l.length < 100000):aQ Tryz.prog 168 [cU l .none,s.av] ⟨0,[]⟩ (fun e N=>∃x,e=.ret x∧eU 0 N x (saA (pI l s))∧0≤N.next∧gE 0 N []):=by
 refine aC aF Tryz.func168 rfl (by decide) (by simp[Tryz.f168]) ?_
 have la:=bA Sn.av l
 have k0:=AA l .none (.inl rfl) (by omega) s.client
 have k1:=CW l (by omega)
 have k2:=PF s
 have k3:=ZF l .none (.inl rfl) (by omega) s.client
 have k4:=uF l .none (by omega) s.client 124 (iJ s.client) (fun x=>YM x s.client)
 have k5:=uF l .none (by omega) s.client 218 (fun x=>!iC s.client x) (fun x=>KU x s.client)
 have err:∀{N:aG} (n:Int),∃x,cH.ret (.tup [.sl 0 [] .full,.int .i64 n])=.ret x∧eU 0 N x (saA ([],n))∧0≤N.next∧gE 0 N []:=fun n=>⟨_,rfl,x6 xL,Nat.zero_le _,trivial⟩
 unfold dfA at k0
 unfold pI
 unfold mN
 generalize s7 l s.client=fs at k0
 cases h1:jE iF Sn.client none l&&decide (l.length≤50)
 ·rw[h1] at k1
  unfold cU at*
  repeat' (first|refine zA rfl ?_|refine aA ?_|refine aL rfl ?_|refine aH rfl k0 ?_|refine aH rfl k1 ?_)
  exact⟨rfl,_,rfl,err 1⟩
 ·rw[h1] at k1
  cases h2:iF s
  ·rw[h2] at k2
   unfold cU at*
   repeat' (first|refine zA rfl ?_|refine aA ?_|refine aL rfl ?_|refine aH rfl k0 ?_|refine aH rfl k1 ?_|refine aH rfl k2 ?_)
   exact⟨rfl,_,rfl,err 1⟩
  ·rw[h2] at k2
   rw[if_pos (by rfl)]
   have h50:l.length≤50:=by simp at h1;exact h1.2
   obtain⟨_,hup⟩:=mB (by simp at h1;exact h1.1:jE iF Sn.client none l=true)
   by_cases h3:s.seq≤pR l s.client
   ·have d3:decide (s.seq≤pR l s.client)=true:=decide_eq_true h3
    rw[if_pos h3]
    unfold cU at*
    repeat' (first|refine zB rfl d3 ?_|refine zA rfl ?_|refine aA ?_|refine aL rfl ?_|refine aH rfl k0 ?_|refine aH rfl k1 ?_|refine aH rfl k2 ?_|refine aH rfl k3 ?_|refine aW (id:=4) mixed [2,0,1,3,4,5,6,7] [.R,.R,.P,.R,.P,.P,.P,.P] rfl rfl (by kernel_rfl) ?_)
    exact⟨rfl,_,rfl,err 180⟩
   ·have d3:decide (s.seq≤pR l s.client)=false:=decide_eq_false h3
    rw[if_neg h3]
    rcases yA l (iJ s.client) with ⟨e1,e2,e3⟩|⟨i,x,hi,hx,hpx,hno,e2,e3,e1⟩
    ·rw[e1] at k0
     by_cases h5:l.length=50
     ·have d5:decide ((l.length:Int)=50)=true:=decide_eq_true (by omega)
      rw[if_pos ⟨e1,by omega⟩]
      unfold cU at*
      repeat' (first|refine zB rfl (by first|exact d3|exact d5) ?_|refine zI rfl la ?_|refine zA rfl ?_|refine aA ?_|refine aL rfl ?_|refine aH rfl k0 ?_|refine aH rfl k1 ?_|refine aH rfl k2 ?_|refine aH rfl k3 ?_|refine aW (id:=4) mixed [2,0,1,3,4,5,6,7] [.R,.R,.P,.R,.P,.P,.P,.P] rfl rfl (by kernel_rfl) ?_)
      exact⟨rfl,_,rfl,err 2⟩
     ·have d5:decide ((l.length:Int)=50)=false:=decide_eq_false (by omega)
      rw[if_neg (fun h=>h5 (by omega))]
      have hfi:=I3 l (fun x=>!iC s.client x)
      have hins:l9 l s=l.take (l.findIdx fun x=>!iC s.client x)++s::l.drop (l.findIdx fun x=>!iC s.client x):=by
       refine EF hfi (fun j d hj hd=>?_) (.inr ⟨rfl,fun d hd=>?_⟩)
       ·have:=List.not_of_lt_findIdx hj
        obtain⟨hjl,rfl⟩:=List.getElem?_eq_some_iff.1 hd
        simpa [iC] using this
       ·obtain⟨hjl,rfl⟩:=List.getElem?_eq_some_iff.1 hd
        have a1:=List.findIdx_getElem (w:=hjl)
        rw[List.any_eq_false] at e1
        have a2:=e1 _ (List.getElem_mem hjl)
        generalize l[l.findIdx fun x=>!iC s.client x]=d at a1 a2
        simp[iC] at a1
        simp[iJ] at a2
        exact⟨by omega,a2⟩
      generalize (l.findIdx fun x=>!iC s.client x)=i at*
      by_cases h0:l=[]
      ·subst h0
       have kc:=MP
       unfold cU at*
       repeat' (first|refine zB rfl (by first|exact d3|exact d5) ?_|refine zI rfl la ?_|refine zA rfl ?_|refine aA ?_|refine aL rfl ?_|refine aH rfl k0 ?_|refine aH rfl k1 ?_|refine aH rfl k2 ?_|refine aH rfl k3 ?_|refine aW (id:=4) mixed [2,0,1,3,4,5,6,7] [.R,.R,.P,.R,.P,.P,.P,.P] rfl rfl (by kernel_rfl) ?_)
       refine bS rfl rfl (kc _) ?_ (fun u M' h=>by obtain⟨_,h,_⟩:=h;cases h)
       rintro u M' ⟨sz,e,rfl⟩
       cases e
       obtain rfl:i=0:=by simpa using hfi
       repeat' (first|refine zB rfl (by first|exact d3|exact d5) ?_|refine zA rfl ?_|refine aA ?_|refine aL rfl ?_|refine aH rfl k5 ?_|refine zR rfl ?_|refine aW mixed [0,1,4,6,7,2,3,5,8,9,10] [.P,.P,.R,.R,.P,.P,.P,.P,.E,.P,.P] rfl rfl (by kernel_rfl) ?_)
       have ki:=fun (M:aG)=>(HY M s).sub (args:=[.sl sz [] .full,.int .i64 ((0:Nat):Int),.sl 4 [s.av] .full]) rfl (fun i x y hx hy=>by
        match i,hx,hy with
        |0,hx,hy=>cases hx;cases hy;exact Sub.empty (.inr rfl)
        |1,hx,hy=>cases hx;cases hy;exact Sub.refl
        |2,hx,hy=>cases hx;cases hy;exact Sub.refl
        |i+3,hx,hy=>simp at hx)
       refine bS rfl rfl (ki _) ?_ (fun u M' h=>by obtain⟨_,_,_,h,_⟩:=h;cases h)
       rintro u M' ⟨id',cap',cells',e,g1,g2,g3,g4⟩
       cases e
       repeat' (first|refine zA rfl ?_|refine aA ?_|refine aL rfl ?_)
       have g5:=xE [] s 0 0
       rw[←hins] at g5
       refine⟨rfl,_,rfl,_,rfl,?_,Nat.zero_le _,trivial⟩
       exact x6 (uZ g1 (by rw[hins];rfl) (g4.trans g5) g2 g3)
      ·have kc:=C1 l (by omega) h0
       unfold cU at*
       repeat' (first|refine zB rfl (by first|exact d3|exact d5) ?_|refine zI rfl la ?_|refine zA rfl ?_|refine aA ?_|refine aL rfl ?_|refine aH rfl k0 ?_|refine aH rfl k1 ?_|refine aH rfl k2 ?_|refine aH rfl k3 ?_|refine aW (id:=4) mixed [2,0,1,3,4,5,6,7] [.R,.R,.P,.R,.P,.P,.P,.P] rfl rfl (by kernel_rfl) ?_)
       refine bS rfl rfl (kc _) ?_ (fun u M' h=>by obtain⟨_,_,h,_⟩:=h;cases h)
       rintro u M' ⟨cap,cells,e,rfl,f1,f2,f3⟩
       cases e
       have le:(l.map Sn.av).length=l.length:=by simp
       repeat' (first|refine zA rfl ?_|refine aA ?_|refine aL rfl ?_|refine aH rfl k5 ?_|refine zR rfl ?_|refine aW mixed [0,1,4,6,7,2,3,5,8,9,10] [.P,.P,.R,.R,.P,.P,.P,.P,.E,.P,.P] rfl rfl (by kernel_rfl) ?_)
       have ki:=fun (M:aG) (h1:1 < M.next) (h2:M.get 1=some (.cells cells))=>NS M 1 cap i cells (l.map Sn.av) s h1 h2 (P2 l) (by rw[le];exact f3) (by omega) f2 (by omega) (by omega)
       rw[le] at ki
       refine bS rfl rfl (ki _ (by show 1 < 2;omega) rfl) ?_ (fun u M' h=>by obtain⟨_,_,_,h,_⟩:=h;cases h)
       rintro u M' ⟨id',cap',cells',e,g1,g2,g3,g4⟩
       cases e
       repeat' (first|refine zA rfl ?_|refine aA ?_|refine aL rfl ?_)
       rw[le] at g2 g4
       rw[xE,←hins] at g4
       have hil:(l9 l s).length=l.length+1:=by rw[hins];simp;omega
       refine⟨rfl,_,rfl,_,rfl,?_,Nat.zero_le _,trivial⟩
       rw[le]
       exact x6 (uZ g1 hil g4 g2 g3)
    ·rw[e1] at k0
     rw[e2] at k4
     rw[if_neg (by simp[e1])]
     have hne:l≠[]:=by rintro rfl;simp at hx
     have hcl:x.client=s.client:=by simpa [iJ] using hpx
     have hins:l9 l s=l.take i++s::l.drop (i+1):=by
      refine EF (Nat.le_of_lt hi) (fun j d hj hd=>?_) (.inl ⟨rfl,x,hx,hcl⟩)
      rw[←hcl]
      obtain⟨hjl,rfl⟩:=List.getElem?_eq_some_iff.1 hd
      obtain⟨hil,rfl⟩:=List.getElem?_eq_some_iff.1 hx
      exact List.pairwise_iff_getElem.1 hup j i hjl hil hj
     have kc:=C1 l (by omega) hne
     unfold cU at*
     repeat' (first|refine zB rfl d3 ?_|refine zA rfl ?_|refine aA ?_|refine aL rfl ?_|refine aH rfl k0 ?_|refine aH rfl k1 ?_|refine aH rfl k2 ?_|refine aH rfl k3 ?_|refine aW (id:=4) mixed [2,0,1,3,4,5,6,7] [.R,.R,.P,.R,.P,.P,.P,.P] rfl rfl (by kernel_rfl) ?_)
     refine bS rfl rfl (kc _) ?_ (fun u M' h=>by obtain⟨_,_,h,_⟩:=h;cases h)
     rintro u M' ⟨cap,cells,e,rfl,f1,f2,f3⟩
     cases e
     have le:(l.map Sn.av).length=l.length:=by simp
     repeat' (first|refine zA rfl ?_|refine aA ?_|refine aL rfl ?_|refine aH rfl k4 ?_|refine aW (id:=10) mixed [0,1,5,2,3,4,6,7] [.P,.P,.R,.R,.P,.P,.R,.E] rfl rfl (by kernel_rfl) ?_)
     refine a4i aF rfl rfl rfl rfl rfl rfl rfl rfl rfl rfl rfl rfl (by omega) (by omega) ?_
     skip
     have e9:0+(i:Int).toNat*4=i*4:=by simp
     refine a5q aF rfl rfl rfl rfl rfl rfl rfl rfl rfl rfl rfl (by rw[e9];show i*4+4≤_;omega) ?_
     repeat' (first|refine zA rfl ?_|refine aA ?_|refine aL rfl ?_)
     have hset:=RK (i:=i) (xc:=s.av.cells) (P2 l) (by rw[le];exact f3) (by omega) rfl (by omega)
     rw[le,xE,←hins] at hset
     have hil:(l9 l s).length=l.length:=by rw[hins];simp;omega
     refine⟨rfl,_,rfl,_,rfl,?_,Nat.zero_le _,trivial⟩
     refine x6 (uZ cM hil ?_ f1 (by rw[bO,f2]))
     rw[e9]
     exact hset
theorem a0o (l:List Sn) (s:Sn) (hl:l.length < 100000):aO Tryz.prog 168 [cU l .none,s.av] (saA (pI l s)):=s8 (aV (cT l (.inl rfl)) (lR s)) (MT _) (YV l s hl)
theorem a0h (s:Sg) (o:Oo):(wU s o).2.1≠0→(wU s o).2.2=0:=by
 unfold wU
 split
 ·unfold B5
  split
  ·exact fun _=>rfl
  ·exact fun h=>absurd rfl h
 ·split
  ·unfold xZ
   split
   ·exact fun _=>rfl
   ·split
    ·exact fun _=>rfl
    ·split
     ·exact fun h=>absurd rfl h
     ·exact fun _=>rfl
  ·split
   ·unfold xG
    split
    ·exact fun h=>absurd rfl h
    ·exact fun _=>rfl
   ·exact fun h=>absurd rfl h
theorem S7 {s:Sg} {o:Oo} (hs:dX s):vOk s.pairs (fU s.mark o.at_ s.last s.pins)=true:=by
 have h:=(JY (b:=o.at_) s.pins hs.mark).1
 have a:=hs.mark0
 unfold vOk
 rw[hs.st,decide_eq_false (by omega)]
 rfl
theorem a62 {s:Sg} {o:Oo} (hs:dX s) (hv:cP s.pairs) (hm:YU o) (ho:cY o) (hc:o.ch.length < 1000) {t:Tr} (ht:t.all=s.pairs):aQ Tryz.prog 167 [.ptr 0 0,o.av] (G6 s t) (DP s (wU s o)):=by
 have a:=hs.mark0
 have b:=hs.mark
 have l:=hs.last
 have m:=hs.many
 have n:=hs.pinsN
 have hz:=a0h s o
 obtain⟨c,q,k,se,at_,ch⟩:=o
 have hk:k=1∨k=2∨k=3∨k=4:=hm.kind
 unfold wU at hz ⊢
 rcases hk with rfl|rfl|rfl|rfl
 ·rw[if_pos rfl] at hz ⊢
  exact a0v s t c q 1 se at_ ch _ hz _ (.inl ⟨rfl,rfl⟩) (a9m s t _ ho hc ht m hv l (by omega) (FA hs (hm.lay rfl)))
 ·rw[if_neg (show ¬(2:Int)=1 by decide),if_pos rfl] at hz ⊢
  exact a0v s t c q 2 se at_ ch _ hz _ (.inr (.inl ⟨rfl,rfl⟩)) (a61 s t _ ht (by omega))
 ·rw[if_neg (show ¬(3:Int)=1 by decide),if_neg (show ¬(3:Int)=2 by decide),if_pos rfl] at hz ⊢
  exact a0v s t c q 3 se at_ ch _ hz _ (.inr (.inr (.inl ⟨rfl,rfl⟩))) (a6s s t _ ht (by omega))
 ·rw[if_neg (show ¬(4:Int)=1 by decide),if_neg (show ¬(4:Int)=2 by decide),if_neg (show ¬(4:Int)=3 by decide)] at hz ⊢
  exact a0v s t c q 4 se at_ ch _ hz _ (.inr (.inr (.inr ⟨rfl,rfl⟩))) (a27 s t _ ht (by omega) hv (by omega) (S7 hs))
theorem aBb {M:aG} {id:Nat} {s:Sg} {t:Tr} {o:Oo} {z:Sg×(Int×Int)} (h:aQ Tryz.prog 167 [.ptr 0 0,o.av] (G6 s t) (DP s z)) (hM:M.get id=some (.cells (DL s t))) (hlt:id < M.next):aQ Tryz.prog 167 [.ptr id 0,o.av] M fun e N=>∃d,N=⟨M.next+2,(id,.cells d)::M.objs⟩∧DR s z e d:=by
 refine aQ.frame [id] (by simp) (by simpa using hlt) (N0:=G6 s t) rfl ?_ h ⟨kP.ptr rfl,kP.closed (fP o),trivial⟩ ?_
 ·intro k o1 hk
  have hk':(if k=0 then some (c7.cells (DL s t)) else none)=some o1:=hk
  split at hk'
  ·rename_i h0
   subst h0
   cases hk'
   exact⟨id,_,rfl,hM,B0.closed (oV s t)⟩
  ·cases hk'
 ·rintro e M1 ⟨h1,d,h2,t',h3,rfl,rfl⟩
  refine⟨.ret (gG z.2),_,eP.closed (bU (aV aB aB)),⟨?_,?_⟩,_,rfl,t',h3,rfl,rfl⟩
  ·show M.next+2=_
   rw[h1]
   rfl
  ·intro i o hi
   have hi:(if i=id then some (c7.cells (DL {z.1 with pairs:=s.pairs} t')) else M.get i)=some o:=hi
   split at hi
   ·rename_i h0
    cases hi
    exact .inl ⟨0,_,.inl (by rw[h0];rfl),h2,oK.closed (oV _ _)⟩
   ·rename_i h0
    exact .inr ⟨by simpa using h0,hi⟩
theorem RQ (s:Sg) (o:Oo) (hs:oT s) (hl:TQ s) (hn:s.seen.length < 100000) (ho:cY o) (z:Sg×(Int×Int)) (hz:cJ s=true→iB o=true→z.1.pairs.length < 1000000) (kd:cJ s=true→iB o=true→∀t,t.all=s.pairs→aQ Tryz.prog 167 [.ptr 0 0,o.av] (G6 s t) (DP s z)):aO Tryz.prog 122 [s.av,o.av] (apA (T6 s o z)):=by
 refine aU (aV (dK s) (fP o)) (kH _) ?_
 refine aC aF Tryz.func122 rfl (by decide) (by simp[Tryz.f122]) ?_
 have k1:=a5k s hs
 have k2:=FF o ho
 have k3:=a3c s hl.pairs hl.pins hl.seen
 have k4:=IK s.seen .none (.inl rfl) (by omega) o.client o.seq
 have k5:=a0o s.seen (pM o z) hn
 have k6:=xX s hs.pairs
 unfold T6
 unfold P8 gG at k4
 unfold saA at k5
 unfold cU at k4 k5
 generalize pI s.seen (pM o z)=q at*
 generalize kM s.seen o.client o.seq=y at*
 obtain⟨ql,qe⟩:=q
 obtain⟨⟨yc,yn⟩,ye⟩:=y
 cases h1:cJ s
 ·rw[h1] at k1
  repeat' (first|refine iT 2 aF rfl ?_|refine zA rfl ?_|refine aA ?_|refine aL rfl ?_|refine aH rfl k1 ?_)
  exact⟨rfl,_,rfl,_,rfl,OI 1⟩
 ·rw[h1] at k1
  cases h2:iB o
  ·rw[h2] at k2
   repeat' (first|refine iT 2 aF rfl ?_|refine zA rfl ?_|refine aA ?_|refine aL rfl ?_|refine aH rfl k1 ?_|refine aH rfl k2 ?_)
   exact⟨rfl,_,rfl,_,rfl,OI 1⟩
  ·rw[h2] at k2
   have hT:=mI (cE.1 h1).rise (by have:=hs.pairs;omega)
   have kd:=kd h1 h2 _ hT
   have hz:=hz h1 h2
   generalize gL s.pairs=T at*
   obtain⟨t,c,n⟩:=z
   rw[if_pos (by rfl)]
   by_cases h3:ye=1
   ·have d3:decide (ye=1)=true:=by simp[h3]
    rw[if_pos h3]
    repeat' (first|refine zB rfl d3 ?_|refine iT 2 aF rfl ?_|refine zA rfl ?_|refine aA ?_|refine aL rfl ?_|refine aH rfl k1 ?_|refine aH rfl k2 ?_|refine aH rfl k3 ?_|refine aH rfl k4 ?_|refine sX mixed (.two [0] 1 2 (.fin [2,3,4]) (.fin [1,3,4])) [.R,.R,.E,.E,.P] rfl rfl (by kernel_rfl) ?_|refine NR.mk ?_ ?_)
    all_goals
     exact⟨rfl,_,rfl,_,rfl,aI.of_closed (kH ((s,(yc,yn)),0))⟩
   ·have d3:decide (ye=1)=false:=by simp[h3]
    rw[if_neg h3]
    by_cases h4:ye=2
    ·have d4:decide (ye=2)=true:=by simp[h4]
     rw[if_pos h4]
     repeat' (first|refine zB rfl (by first|exact d3|exact d4) ?_|refine iT 2 aF rfl ?_|refine zA rfl ?_|refine aA ?_|refine aL rfl ?_|refine aH rfl k1 ?_|refine aH rfl k2 ?_|refine aH rfl k3 ?_|refine aH rfl k4 ?_)
     all_goals
      exact⟨rfl,_,rfl,_,rfl,aI.of_closed (kH ((s,(180,0)),0))⟩
    ·have d4:decide (ye=2)=false:=by simp[h4]
     rw[if_neg h4]
     unfold Tr.av at k6
     repeat' (first|refine zB rfl (by first|exact d3|exact d4) ?_|refine iT 2 aF rfl ?_|refine iT 49 aF rfl ?_|refine zA rfl ?_|refine aA ?_|refine aL rfl ?_|refine aH rfl k1 ?_|refine aH rfl k2 ?_|refine aH rfl k3 ?_|refine aH rfl k4 ?_|refine aH rfl k6 ?_|refine aW mixed [0,1,2,3,4,5] [.R,.R,.P,.P,.E,.P] rfl rfl (by kernel_rfl) ?_)
     all_goals
      refine bS rfl rfl (aBb kd rfl (of_decide_eq_true rfl)) ?_ (fun u M' h=>by obtain⟨_,_,_,_,_,h⟩:=h;cases h)
      rintro u N ⟨d,rfl,t',e1,rfl,e2⟩
      cases e2
      by_cases h5:qe=0
      ·have d5:(!decide (qe=0))=false:=by simp[h5]
       rw[if_pos h5]
       have kw:=XL {t with pairs:=s.pairs} t' (by rw[e1];omega)
       unfold NV at kw
       rw[e1] at kw
       unfold DL
       unfold Tr.av at kw ⊢
       repeat' (first|refine zB rfl d5 ?_|refine zA rfl ?_|refine aA ?_|refine aL rfl ?_|refine aH rfl k5 ?_)
       all_goals
        refine jR (aR.freezeP 9 rfl rfl) ?_
        repeat' (first|refine zA rfl ?_|refine aA ?_|refine aL rfl ?_|refine aH rfl kw ?_|refine sX mixed (.two [0] 1 2 (.fin [2,3,4]) (.fin [1,3,4])) [.R,.R,.E,.E,.P] rfl rfl (by kernel_rfl) ?_|refine aW mixed [0,1,2,3,4,5,6,7,8,9,10] [.P,.P,.P,.P,.P,.P,.P,.P,.P,.E,.E] rfl rfl (by kernel_rfl) ?_|refine NR.mk ?_ ?_)
        all_goals
         exact⟨rfl,_,rfl,_,rfl,aI.of_closed (kH (({t with seen:=ql},(c,n)),0))⟩
      ·have d5:(!decide (qe=0))=true:=by simp[h5]
       rw[if_neg h5]
       unfold DL
       unfold Tr.av
       repeat' (first|refine zB rfl d5 ?_|refine zA rfl ?_|refine aA ?_|refine aL rfl ?_|refine aH rfl k5 ?_)
       all_goals
        exact⟨rfl,_,rfl,_,rfl,aI.of_closed (kH ((s,(qe,0)),0))⟩
def NO (l:List (Int×Int)) (t:eE):AV:=.sl 2 (l.map gG) t
end Go.Proofs.YteliblifgdofgaaGreatDoor
namespace Go.Ab
open Go.RowKit
section
variable {P:Program} {ops:Array Oper} {cls:Nat→fQ} {Q:AX→AF→aG→Prop} {ds:List bJ}
structure aBw where
 pre:List Nat
 a:Nat
 b:Nat
 c:Nat
 p:BA
 q:BA
 r:BA
structure Tri (A B C:Prop):Prop where
 l:A
 m:B
 r:C
end
end Go.Ab
namespace Go.Proofs.YteliblifgdofgaaGreatDoor
open Go.Ab
theorem Z8 {s:Sg} (hs:dX s) (hv:cP s.pairs):oT s:=⟨by have:=hs.many;omega,hv,by have:=hs.pinsN;omega,by have:=hs.seenN;omega⟩
theorem a71 {s:Sg} {o:Oo} (hv:cP s.pairs) (ho:cY o):cJ s=true→iB o=true→(wU s o).1.pairs.length < 1000000:=fun h1 h2=>by
 have:=(XV (cE.1 h1) hv (v6 h2) ho).state.many
 omega
theorem a41 {s:Sg} {o:Oo} (hs:oT s) (ho:cY o) (hc:o.ch.length < 1000):aO Tryz.prog 122 [s.av,o.av] (apA (eA s o)):=
 RQ s o hs hs.len (by have:=hs.seen;omega) ho (wU s o) (a71 hs.vals ho) fun h1 h2 t ht=>a62 (cE.1 h1) hs.vals (v6 h2) ho hc ht
noncomputable def kK:List Oo→Sg→List (Int×Int)→(Sg×List (Int×Int))×Int
 |[],s,r=>((s,r),0)
 |o::l,s,r=>if (eA s o).2=0 then kK l (eA s o).1.1 (r++[(eA s o).1.2]) else ((AR,[]),(eA s o).2)
theorem iG {o:Oo} {l:List Oo} {s:Sg} {r:List (Int×Int)} (h:(eA s o).2=0):kK (o::l) s r=kK l (eA s o).1.1 (r++[(eA s o).1.2]):=if_pos h
theorem OA {o:Oo} {l:List Oo} {s:Sg} {r:List (Int×Int)} (h:(eA s o).2≠0):kK (o::l) s r=((AR,[]),(eA s o).2):=if_neg h
theorem a3e {s:Sg} {o:Oo} (h:(eA s o).2=0):cJ s=true∧iB o=true:=by
 cases h1:(cJ s&&iB o) with
 |true=>simpa using h1
 |false=>
  rw[a7o h1] at h
  exact absurd h (by decide)
def Q1 (x:(Sg×List (Int×Int))×Int):AV:=.tup [x.1.1.av,NO x.1.2 .none,.int .i64 x.2]
theorem x9 (l:List (Int×Int)) {t:eE} (h:t=.none∨t=.full):aN (NO l t):=bR h (fun x hx=>by obtain⟨p,_,rfl⟩:=List.mem_map.1 hx;exact bU (aV aB aB)) (fun x hx=>by obtain⟨p,_,rfl⟩:=List.mem_map.1 hx;exact aV aB aB)
theorem E8 (x:(Sg×List (Int×Int))×Int):aN (Q1 x):=aS (bK (dK _) (x9 _ (.inl rfl)) aB)
theorem TR {k:Nat} {a b c d e a' b' c' d' e':AV} (h1:aI k a a') (h2:aI k b b') (h3:aI k c c') (h4:aI k d d') (h5:aI k e e'):H8 k (some (.cells [a,b,c,d,e])) (.cells [a',b',c',d',e']):=by
 refine⟨rfl,?_⟩
 intro i x y hx hy
 match i with
 |0=>cases hx;cases hy;exact h1
 |1=>cases hx;cases hy;exact h2
 |2=>cases hx;cases hy;exact h3
 |3=>cases hx;cases hy;exact h4
 |4=>cases hx;cases hy;exact h5
 |j+5=>simp at hx
theorem a1a (k:Nat) (s:Sg):H8 k (some (.cells s.cells)) (.cells s.cells):=TR (aI.of_closed aB) (aI.of_closed aB) (aI.of_closed (bW _)) (aI.of_closed (cV _ (.inl rfl))) (aI.of_closed (cT _ (.inl rfl)))
def uH:List AV:=[.int .i64 0,.int .i64 0,.sl 0 [] .full,.sl 0 [] .full,.sl 0 [] .full]
theorem SE (k:Nat):H8 k (some (.cells uH)) (.cells AR.cells):=TR (aI.of_closed aB) (aI.of_closed aB) aI.nil aI.nil aI.nil
def RuM (s:Sg) (g:Nat):aG:=⟨3,[(0,.cells uH),(1,.cells s.cells),(2,.spare g)]⟩
theorem DV (k:Nat):H8 k (some (.cells uH)) (.cells uH):=TR (aI.of_closed aB) (aI.of_closed aB) (aI.of_closed (bR (.inr rfl) (by simp) (by simp))) (aI.of_closed (bR (.inr rfl) (by simp) (by simp))) (aI.of_closed (bR (.inr rfl) (by simp) (by simp)))
theorem YB {k id g:Nat} (hk:id < k) (l:List (Int×Int)) (x:Int×Int):aI k (.sl 2 (l.map gG++[gG x]) (.tok id g)) (NO (l++[x]) (.tok id g)):=by
 unfold NO
 rw[List.map_append]
 exact aI.tok (decide_eq_true hk) (by
  intro y hy c hc
  have:∃p:Int×Int,y=gG p:=by
   rcases List.mem_append.1 hy with hy|hy
   ·obtain⟨p,_,rfl⟩:=List.mem_map.1 hy
    exact⟨p,rfl⟩
   ·exact⟨x,by simpa using hy⟩
  obtain⟨p,rfl⟩:=this
  exact aV aB aB c hc)
structure RuI (l:List Oo) (i:Nat) (s:Sg) (r:List (Int×Int)):Prop where
 run:kK l AR []=kK (l.drop i) s r
 state:cJ s=true
 vals:cP s.pairs
 len:r.length=i
theorem a78 (l:List Oo):RuI l 0 AR []:=⟨rfl,by decide,(fun p hp=>by cases hp),rfl⟩
theorem a2z {l:List Oo} {i:Nat} {s:Sg} {r:List (Int×Int)} {o:Oo} (h:RuI l i s r) (hx:l[i]? =some o) (ho:cY o) (h0:(eA s o).2=0):RuI l (i+1) (eA s o).1.1 (r++[(eA s o).1.2]):=by
 obtain⟨hi,rfl⟩:=List.getElem?_eq_some_iff.1 hx
 obtain⟨h1,h2⟩:=a3e h0
 have A:=y1 h1 h.vals h2 ho
 exact⟨by rw[h.run,List.drop_eq_getElem_cons hi,iG h0],cE.2 A.state,A.vals,by simp[h.len]⟩
theorem a4d {l:List Oo} {i:Nat} {s:Sg} {r:List (Int×Int)} {o:Oo} (h:RuI l i s r) (hx:l[i]? =some o) (h0:(eA s o).2≠0):kK l AR []=((AR,[]),(eA s o).2):=by
 obtain⟨hi,rfl⟩:=List.getElem?_eq_some_iff.1 hx
 rw[h.run,List.drop_eq_getElem_cons hi,OA h0]
theorem a7r {l:List Oo} {s:Sg} {r:List (Int×Int)} (h:RuI l l.length s r):kK l AR []=((s,r),0):=by
 rw[h.run,List.drop_length]
 rfl
theorem a03 {k:Nat} (n:Int):aI k (.tup [.agg uH,.sl 0 [] .full,.int .i64 n]) (Q1 ((AR,[]),n)):=aI.tup3 (aI.aggL ⟨aI.of_closed aB,aI.of_closed aB,aI.nil,aI.nil,aI.nil,trivial⟩) aI.nil (aI.of_closed aB)
def ruF (l:List Oo) (r:List (Int×Int)) (g i:Nat):AF:=⟨[(2,.ptr 0 0),(5,.ptr 1 0),(6,NO r (.tok 2 g)),(12,AU l .none),(13,.int .i64 (l.length:Int)),(14,.int .i64 (i:Int))],[]⟩
theorem a2m (l:List Oo) (hl:l.length < 1000000) (ho:∀o,o∈l→cY o∧o.ch.length < 1000):aO Tryz.prog 76 [AU l .none] (Q1 (kK l AR [])):=by
 refine aU (aX (iL l (.inl rfl))) (E8 _) ?_
 refine aC aF Tryz.func76 rfl (by decide) (by simp[Tryz.f76]) ?_
 have la:=bA Oo.av l
 have hcl:=iL l (t:=.none) (.inl rfl)
 unfold AU
 repeat' (first|refine zI rfl la ?_|refine zA rfl ?_|refine aA ?_|refine aL rfl ?_)
 refine bC l.length (fun i f N=>∃s r g,RuI l i s r∧N=RuM s g∧f=ruF l r g i) (Nat.zero_le _) ⟨AR,[],0,a78 l,rfl,rfl⟩ ((aR.tok 6 rfl (sz':=2) (.inr rfl)).trans (aR.cut (k:=3) (t:=(ruF l [] 0 0).t) (l:=(RuM AR 0).objs) (of_decide_eq_true rfl) (of_decide_eq_true rfl) rfl ⟨aI.ptr (by decide),aI.ptr (by decide),aI.tok (by decide) (by simp),aI.of_closed hcl,aI.of_closed aB,aI.of_closed aB,trivial⟩ ⟨by decide,DV _,by decide,SE _,by decide,rfl,trivial⟩)) ?_
 rintro i f N hi ⟨s,r,g,hI,rfl,rfl⟩
 unfold ruF NO AU
 have lr:=bA gG r
 have hri:=hI.len
 by_cases g1:i < l.length
 ·have d1:decide ((i:Int) < (l.length:Int))=true:=decide_eq_true (by omega)
  have hx:l[i]? =some l[i]:=List.getElem?_eq_getElem g1
  have fi:=aZ (i:=i) (by omega)
  obtain⟨hs1,hs2⟩:=ho _ (List.getElem_mem g1)
  generalize l[i]=o at hx hs1 hs2
  have ka:=a41 (Z8 (cE.1 hI.state) hI.vals) hs1 hs2
  by_cases h0:(eA s o).2=0
  ·have hN:=a2z hI hx hs1 h0
   generalize eA s o=y at*
   obtain⟨⟨s',c,n⟩,e⟩:=y
   cases h0
   unfold apA gG at ka
   unfold RuM
   have d2:(!decide ((0:Int)=0))=false:=rfl
   repeat' (first|refine zB rfl (by first|exact d1|exact d2) ?_|refine zI rfl (by first|exact la|exact fi) ?_|refine zA rfl ?_|refine aA ?_|refine aL rfl ?_|refine aH rfl ka ?_|refine zX rfl (fB hx) ?_|refine zR rfl ?_|refine zP rfl rfl ?_)
   refine⟨g1,ruF l (r++[(c,n)]) (g+1) (i+1),RuM s' (g+1),⟨s',r++[(c,n)],g+1,hN,rfl,rfl⟩,aR.cut (k:=3) (t:=(ruF l (r++[(c,n)]) (g+1) (i+1)).t) (l:=(RuM s' (g+1)).objs) (of_decide_eq_true rfl) (of_decide_eq_true rfl) rfl ⟨aI.ptr (by decide),aI.ptr (by decide),YB (by decide) r (c,n),aI.of_closed hcl,aI.of_closed aB,aI.of_closed aB,trivial⟩ ⟨by decide,DV _,by decide,a1a _ _,by decide,rfl,trivial⟩⟩
  ·have hN:=a4d hI hx h0
   rw[hN]
   generalize eA s o=y at*
   obtain⟨⟨s',c,n⟩,e⟩:=y
   unfold apA gG at ka
   unfold RuM
   have d2:(!decide (e=0))=true:=by simp at h0 ⊢;exact h0
   repeat' (first|refine zB rfl (by first|exact d1|exact d2) ?_|refine zA rfl ?_|refine aA ?_|refine aL rfl ?_|refine aH rfl ka ?_|refine zX rfl (fB hx) ?_)
   exact⟨rfl,_,rfl,_,rfl,a03 e⟩
 ·have d1:decide ((i:Int) < (l.length:Int))=false:=decide_eq_false (by omega)
  obtain rfl:i=l.length:=by omega
  rw[a7r hI]
  unfold RuM
  repeat' (first|refine zB rfl d1 ?_|refine zA rfl ?_|refine aA ?_|refine aL rfl ?_)
  exact⟨rfl,_,rfl,_,rfl,aI.tup3 (aI.of_closed (dK s)) (aI.untag (x9 r (.inl rfl))) (aI.of_closed aB)⟩
def cA:Ch:=⟨[97],false,cC⟩
def op1:Oo:=⟨1,1,1,0,0,[cA]⟩
def vA:aD:=(cL cC false).1
def pA:List Pr:=[⟨⟨[97],1⟩,vA⟩]
theorem sP:bY vA=(cC,false,0):=oD (by decide)
theorem U2:B2 ⟨⟨[97],1⟩,vA⟩=true:=by unfold B2;rw[sP];decide
theorem a4t:dZ pA=true:=by simp[dZ,pA,U2]
theorem a2k:eX pA=1:=by unfold eX;rw[if_pos a4t];rfl
theorem a2d:bT pA:=List.pairwise_singleton _ _
def s1:Sg:=⟨1,0,pA,[],[⟨1,1,0,1⟩]⟩
def s3:Sg:=⟨1,0,pA,[⟨5,1⟩],[⟨1,2,0,1⟩]⟩
theorem aAm {m:Int} {p:List Pn} {u:List Sn} (h0:0≤m) (h1:m≤1) (h2:lU p=true) (h3:mN u=true):cJ ⟨1,m,pA,p,u⟩=true:=by
 unfold lU at h2
 unfold mN at h3
 simp only[Bool.and_eq_true,decide_eq_true_eq] at h2 h3
 exact cE.2 ⟨h0,h1,(by decide:(1:Int)≤1000000000),(by show pA.length≤200;decide),a2d,a4t,(by show eX pA≤1;rw[a2k];decide),h2.1,h2.2,h3.1,h3.2⟩
theorem xT {s:Sg} {o:Oo} {z:Sg×(Int×Int)} {l:List Sn} (hs:cJ s=true) (hm:iB o=true) (hd:wU s o=z) (hl:(kM s.seen o.client o.seq).2=0) (hp:pI s.seen (pM o z)=(l,0)):eA s o=(({z.1 with seen:=l},z.2),0):=by
 unfold eA
 rw[hd]
 unfold T6
 rw[if_pos (IC hs hm),if_neg (by rw[hl];decide),if_neg (by rw[hl];decide),hp,if_pos rfl]
theorem a5d:eA AR op1=((s1,(0,1)),0):=xT (z:=({AR with pairs:=pA,last:=1},(0,1))) (by decide) (by decide) (by
 unfold wU B5
 rw[if_pos (by rfl),if_neg (by decide)]
 rfl) (by decide) (by decide)
def oA (o:Oo):AV:=.agg [.int .i64 o.client,.int .i64 o.seq,.int .i64 o.kind,.int .i64 o.session,.int .i64 o.at_,.sl 0 [] .full]
theorem UW (o:Oo) (ho:o.ch=[]) {j:Nat} {a b:AV} (h3:(oA o).cells[j]? =some a) (h4:o.av.cells[j]? =some b):Ab.Sub a b:=by
 match j,h3,h4 with
 |0,h3,h4=>cases h3;cases h4;exact Sub.refl
 |1,h3,h4=>cases h3;cases h4;exact Sub.refl
 |2,h3,h4=>cases h3;cases h4;exact Sub.refl
 |3,h3,h4=>cases h3;cases h4;exact Sub.refl
 |4,h3,h4=>cases h3;cases h4;exact Sub.refl
 |5,h3,h4=>
  cases h3
  have h4:some (mU o.ch .none)=some b:=h4
  rw[ho] at h4
  cases h4
  exact Sub.nil
 |j+6,h3,h4=>simp[AV.cells,oA] at h3
theorem C3 {o:Oo} (h:E3 o=false):cY o∧o.ch.length≤25:=by
 unfold E3 at h
 simp only[Bool.or_eq_false_iff,decide_eq_false_iff_not] at h
 obtain⟨l1,l2⟩:=a2o h.1
 exact⟨⟨by omega,fun c hc=>by have:=l2 c hc;exact⟨by omega,by omega⟩⟩,by omega⟩
def a6d (l:List Oo):Prop:=l.length < 4611686018427387904∧∀o,o∈l→o.ch.length < 4611686018427387904
theorem a3d (c n:Int):((decide (c=c))&&((decide (n=n))&&true))=true:=by simp
theorem a06 (s:aD):(fS s).1.ch.length≤16:=by
 unfold fS
 cases lP s with
 |none=>exact Nat.zero_le _
 |some l=>
  match l with
  |[]=>exact Nat.zero_le _
  |[_]=>exact Nat.zero_le _
  |[_,_]=>exact Nat.zero_le _
  |a::b::c::m=>
   show (VC a b c m).1.ch.length≤16
   unfold VC
   split
   ·rename_i h
    have h2:=h.2
    unfold pT at h2
    simp at h2
    simp
    exact h2.2.2
   ·exact Nat.zero_le _
theorem XR (v:aD):(bY v).1.ch.length≤16:=by
 cases v with
 |nil=>exact Nat.zero_le _
 |cons c r=>
  show (if c=0∧r=[] then (cC,true,(0:Int)) else if c=1 then ((fS r).1,false,(fS r).2) else (cC,false,30)).1.ch.length≤16
  split
  ·exact Nat.zero_le _
  ·split
   ·exact a06 r
   ·exact Nat.zero_le _
theorem yT:∀(n:Nat) (dir:aD) (m:List Pr),m.length≤n→(fY dir m).length≤m.length
 |n,dir,m,hn=>by
  have hlen:=(iY dir m).length_le
  cases hs:cK dir m with
  |nil=>rw[r6 hs];exact Nat.zero_le _
  |cons x r=>
   rw[hs] at hlen
   have hlt:=nQ x r
   rw[n8 hs]
   match n,hn with
   |0,hn=>simp at hlen;omega
   |n+1,hn=>
    simp at hlen
    have:=yT n dir (dM x.key.path (x::r)) (by omega)
    simp
    omega
theorem TD (l:List Pr) (dir:aD) (w:Int):(mT l dir w).length≤l.length:=
 Nat.le_trans (List.length_filterMap_le _ _) (yT _ dir l (Nat.le_refl _))
theorem LD {l:List Pr} (hr:bT l) (ht:P6 l) {dir:aD} {w:Int}:∀e,e∈mT l dir w→oL e:=fun e he=>by
 obtain⟨_,_,x,_,_,_,hm⟩:=Q0 hr ht ((xH hr ht dir w e).1 he).2
 unfold oL
 rw[hm]
 have:=XR x.val
 omega
theorem IX {l:List Pr} (hr:bT l) (h:dZ l=true) (dir:aD) (w:Int):(pQ l dir w).1.length≤l.length∧∀e,e∈(pQ l dir w).1→oL e:=by
 unfold pQ
 split
 ·exact⟨TD l dir w,LD hr (lX h)⟩
 ·exact⟨Nat.zero_le _,fun e he=>by cases he⟩
theorem a7e {a b:Ky} (h1:a.path=b.path) (h2:a.time=b.time):a=b:=by
 cases a
 cases b
 simp only at h1 h2
 rw[h1,h2]
theorem a5p {l:List Pr} (hr:bT l) (ht:P6 l) {w v:Int} (h:w≤v) (p:aD):qL (mZ l w) p v=qL l p v:=by
 have hr':=IM hr w
 have ht':P6 (mZ l w):=fun y hy=>ht y (kR.1 hy).1
 rcases oJ hr ht p v with ⟨x,hx,e⟩|⟨hn,e⟩
 ·rw[e]
  by_cases hd:UU l w x
  ·obtain⟨h1,h2⟩:=hd
   have hg:y8 x=true:=by
    rcases h2 with ⟨y,hy,h3,h4,h5⟩|h2
    ·have:=hx.top y hy (h3.trans hx.path) (by omega)
     omega
    ·exact h2
   have e2:BE p x=none:=by
    unfold BE
    rw[if_neg]
    rintro⟨_,h3⟩
    unfold y8 at hg
    rw[hg] at h3
    cases h3
   rw[e2]
   refine F4 hr' ht' fun y hy hp hv=>?_
   obtain⟨h3,h4⟩:=kR.1 hy
   have h5:=hx.top y h3 hp hv
   by_cases h6:y.key.time=x.key.time
   ·have:y=x:=z8 hr h3 hx.mem (a7e (hp.trans hx.path.symm) h6)
    subst this
    exact h4 ⟨h1,.inr hg⟩
   ·exact h4 ⟨by omega,.inl ⟨x,hx.mem,hx.path.trans hp.symm,by omega,h1⟩⟩
  ·exact O9 hr' ht' ⟨kR.2 ⟨hx.mem,hd⟩,hx.path,hx.le,fun y hy=>hx.top y (kR.1 hy).1⟩
 ·rw[e]
  exact F4 hr' ht' fun y hy=>hn y (kR.1 hy).1
end Go.Proofs.YteliblifgdofgaaGreatDoor
