/- Parts of the proof, one behind the other. No further condition. -/
import Derived.Test.YteliblifgdofgaaGreatDoorK04
set_option linter.unusedVariables false
set_option linter.unusedSimpArgs false
set_option maxRecDepth 100000
set_option maxHeartbeats 8000000
namespace Go.Ab
open Go.RowKit
structure IS (μ:Mu) (F:c8) (w:World) (l:List AV) (c:Array Value):Prop where
 size:c.size=l.length
 one:∀(i:Nat) (u:Value),c[i]? =some u→u.oneCell'=true
 rep:∀(i:Nat) (y:AV) (u:Value),l[i]? =some y→c[i]? =some u→bP μ F w y u
def rP (place:Nat→Option (Nat×Nat)):List AV→List (Nat×AV)→Option (List AV)
 |l,[]=>some l
 |l,(i,x)::r=>
  match place i with
  |some (o,s)=>if x.solid=true∧x.cells.length=s∧o+s≤l.length then rP place (b9 l o x.cells) r else none
  |none=>none
theorem vN (off:Nat):∀(l:List Value) (k:Nat) (cs:Array Value),off+k+l.length≤cs.size→
  let r:=(l.zipIdx k).foldl (fun cs p=>cs.setIfInBounds (off+p.2) p.1) cs
  r.size=cs.size∧∀i,r[i]? =if off+k≤i∧i < off+k+l.length then l[i - (off+k)]? else cs[i]?
 |[],k,cs,h=>⟨rfl,fun i=>by simp;omega⟩
 |v::r,k,cs,h=>by
  simp only[List.zipIdx_cons,List.foldl_cons,List.length_cons] at*
  obtain⟨h1,h2⟩:=vN off r (k+1) (cs.setIfInBounds (off+k) v) (by simp;omega)
  refine⟨by rw[h1];simp,fun i=>?_⟩
  rw[h2]
  by_cases h5:off+(k+1)≤i∧i < off+(k+1)+r.length
  ·rw[if_pos h5,if_pos (by omega)]
   obtain⟨m,rfl⟩:∃m,i=off+(k+1)+m:=⟨i - (off+(k+1)),by omega⟩
   rw[show off+(k+1)+m - (off+(k+1))=m from by omega,show off+(k+1)+m - (off+k)=m+1 from by omega]
   rfl
  ·rw[if_neg h5]
   by_cases h6:i=off+k
   ·subst h6
    rw[if_pos (by omega)]
    have:off+k < cs.size:=by omega
    simp[Array.getElem?_setIfInBounds,this]
   ·rw[if_neg (by omega),Array.getElem?_setIfInBounds_ne (by omega)]
theorem nE {μ:Mu} {F:c8} {w:World} {place placec:Nat→Option (Nat×Nat)} (hp:∀i q,place i=some q→placec i=some q) {ρ:Operand→AV} {ρc:Operand→Value}:
  ∀(ps:List (Nat×Operand)) (l:List AV) (c:Array Value) (l':List AV),IS μ F w l c→(∀p,p∈ps→bP μ F w (ρ p.2) (ρc p.2))→
   rP place l (ps.map fun p=>(p.1,ρ p.2))=some l'→∃c',Instr.fill placec c (ps.map fun p=>(p.1,ρc p.2))=some c'∧IS μ F w l' c'
 |[],l,c,l',hc,_,h=>by
  simp only[List.map_nil,rP,Option.some.injEq] at h
  subst h
  exact⟨c,rfl,hc⟩
 |(i,x)::r,l,c,l',hc,hr,h=>by
  simp only[List.map_cons,rP] at h
  split at h
  case h_2=>cases h
  rename_i o s hpl
  split at h
  case isFalse=>cases h
  rename_i hcond
  obtain⟨h1,h2,h3⟩:=hcond
  have hx:=hr (i,x) List.mem_cons_self
  obtain⟨g1,g2,g3⟩:=jU hx h1
  simp only at g1 g2 g3
  obtain⟨f1,f2⟩:=vN o (ρc x).cells.toList 0 c (by simp[g1,h2,hc.size];omega)
  have hstep:Instr.fill placec c (List.map (fun p=>(p.1,ρc p.2)) ((i,x)::r))=Instr.fill placec ((ρc x).cells.zipIdx.foldl (fun cs p=>cs.setIfInBounds (o+p.2) p.1) c) (r.map fun p=>(p.1,ρc p.2)):=by
   simp only[List.map_cons,Instr.fill,hp i _ hpl]
   rw[if_neg]
   simp[g1,h2,hc.size]
   omega
  rw[hstep,←Array.foldl_toList,Array.toList_zipIdx]
  refine nE hp r (b9 l o (ρ x).cells) _ l' ?_ (fun p hp'=>hr p (List.mem_cons_of_mem _ hp')) h
  have hn:(ρc x).cells.toList.length=s:=by rw[Array.length_toList,g1,h2]
  refine⟨by rw[f1,bO,hc.size],?_,?_⟩
  ·intro k u hu
   rw[f2] at hu
   split at hu
   ·exact g2 _ _ (by simpa using hu)
   ·exact hc.one _ _ hu
  ·intro k y u hy hu
   rw[f2] at hu
   rw[eZ _ _ _ _ (by rw[h2];exact h3)] at hy
   simp only[Nat.add_zero,hn] at hu
   rw[h2] at hy
   split at hu
   ·rename_i hk
    rw[if_pos hk] at hy
    exact g3 _ _ _ hy (by simpa using hu)
   ·rename_i hk
    rw[if_neg hk] at hy
    exact hc.rep _ _ _ hy hu
theorem KA.zcells {P:Program} {t:TypeId} {i:TI} {f:TypeInfo} {d:TypeDesc} {z:Value} (h:KA P t i f d z) (μ:Mu) (F:c8) (w:World):IS μ F w i.zero z.cells:=by
 obtain⟨hl,hc⟩:=bV h.cells
 refine⟨by simpa using hl,?_,?_⟩
 ·intro j u hu
  have hj:j < i.zero.length:=by
   rw[←hl]
   have:=(Array.getElem?_eq_some_iff.1 hu).1
   simpa using this
  obtain⟨rfl,hp⟩:=hc j u _ (by simpa using hu) (List.getElem?_eq_getElem hj)
  exact oQ hp
 ·intro j y u hy hu
  obtain⟨rfl,hp⟩:=hc j u y (by simpa using hu) hy
  exact wY _ _ _ hp
def KS (τ:Tab) (t:TypeId) (j:Nat):Option (Nat×Nat):=match fieldAt τ t j with|some (o,fi)=>some (o,fi.size)|none=>none
def tZ (size i:Nat):Option (Nat×Nat):=some (i*size,size)
def LN (τ:Tab) (t:TypeId) (ps:List (Nat×AV)):Option AV:=
 match aJ τ t with
 |some i=>
  match i.k with
  |.struct fs=>if (fs.all fun p=>(aJ τ p.2).isSome)=true then (match rP (KS τ t) i.zero ps with|some l=>some (.agg l)|none=>none) else none
  |.array _ e=>(match aJ τ e with|some ei=>(match rP (tZ ei.size) i.zero ps with|some l=>some (.agg l)|none=>none)|none=>none)
  |_=>none
 |none=>none
theorem SA {P:Program} {τ:Tab} (hτ:TabOK P τ) {t:TypeId} {ps:Array (Nat×Operand)} {ty:TypeId} {ρ:Operand→AV} {r:AV} (h:LN τ t (ps.toList.map fun p=>(p.1,ρ p.2))=some r):jF P (.build t ps) ty ρ r:=by
 refine b7 ?_
 intro μ F w ρc o ho ht hr
 have hrp:∀p,p∈ps.toList→bP μ F w (ρ p.2) (ρc p.2):=by
  intro p hp
  refine hr p.2 ?_
  simp only[Op.operands]
  rw[List.mem_toArray,List.mem_map]
  exact⟨p,hp,rfl⟩
 unfold LN at h
 split at h
 case h_2=>cases h
 rename_i i hi
 obtain⟨f,d,z,H⟩:=TI.spec hτ hi
 have hfit:=H.fits
 have hz:=H.zcells μ F w
 have hzr:(zeroValue t).run P w=.ok z w:=by simp[zeroValue,typeInfo,H.info,H.zero]
 have hpm:(ps.map fun p=>(p.1,ρc p.2)).toList=ps.toList.map fun p=>(p.1,ρc p.2):=by simp
 split at h
 ·rename_i fs hk
  split at h
  case isFalse=>cases h
  rename_i hall
  split at h
  case h_2=>cases h
  rename_i l hl
  cases h
  rw[hk] at hfit
  cases d<;>simp[TK.fits] at hfit
  rename_i gs
  subst hfit
  have hall':∀g∈gs.toList,∃gi,aJ τ g.type=some gi:=by
   intro g hg
   have:=(List.all_eq_true.1 hall) (g.offset,g.type) (List.mem_map.2 ⟨g,hg,rfl⟩)
   exact Option.isSome_iff_exists.1 this
  have hmap:(gs.mapM fun f=>(do pure (f.offset,←sizeOf f.type):Sem (Nat×Nat))).run P w=.ok (gs.map fun f=>(f.offset,P.cellsOf f.type)) w:=by
   rw[Array.mapM_eq_mapM_toList]
   have:∀(l:List Field),(∀g∈l,∃gi,aJ τ g.type=some gi)→(l.mapM fun f=>(do pure (f.offset,←sizeOf f.type):Sem (Nat×Nat))).run P w=.ok (l.map fun f=>(f.offset,P.cellsOf f.type)) w:=by
    intro l
    induction l with
    |nil=>intro _;simp
    |cons g r ih=>
     intro hl
     obtain⟨gi,hgi⟩:=hl g List.mem_cons_self
     obtain⟨gf,gd,gz,HG⟩:=TI.spec hτ hgi
     have h1:=ih fun g' hg'=>hl g' (List.mem_cons_of_mem _ hg')
     simp only[List.mapM_cons,Sem.run_bind,run_sizeOf w HG.info,Result.andThen_ok,Sem.run_pure,h1,List.map_cons]
   have h1:=this gs.toList hall'
   simp only[Sem.run_map,h1,Result.andThen_ok]
   congr 1
   apply Array.ext'
   simp
  obtain⟨c',hc',hcells⟩:=nE (μ:=μ) (F:=F) (w:=w) (place:=KS τ t) (placec:=fun j=>(gs.map fun f=>(f.offset,P.cellsOf f.type))[j]?) (ρ:=ρ) (ρc:=ρc) (by
   intro j q hq
   unfold KS at hq
   split at hq
   case h_2=>cases hq
   rename_i o' fi hfa
   cases hq
   obtain⟨fs',g,ff,fd,fz,hu,hj,hoff,HF⟩:=jQ hτ hfa
   rw[H.und] at hu
   cases hu
   simp[hj,hoff,HF.cellsOf]) ps.toList i.zero z.cells l hz hrp hl
  refine⟨.agg c',?_,.agg _ _ hcells.size hcells.rep hcells.one⟩
  simp only[execOp,ho,Instr.build,Sem.run_bind,hzr,Result.andThen_ok,run_underlying H.und,hmap,hpm,hc',Sem.run_pure]
 ·rename_i n e hk
  split at h
  case h_2=>cases h
  rename_i ei hei
  split at h
  case h_2=>cases h
  rename_i l hl
  cases h
  obtain⟨fe,de,ze,HE⟩:=TI.spec hτ hei
  rw[hk] at hfit
  cases d<;>simp[TK.fits] at hfit
  obtain⟨rfl,rfl⟩:=hfit
  obtain⟨c',hc',hcells⟩:=nE (μ:=μ) (F:=F) (w:=w) (place:=tZ ei.size) (placec:=fun i=>some (i*ei.size,ei.size)) (ρ:=ρ) (ρc:=ρc) (fun i q hq=>hq) ps.toList i.zero z.cells l hz hrp hl
  refine⟨.agg c',?_,.agg _ _ hcells.size hcells.rep hcells.one⟩
  simp only[execOp,ho,Instr.build,Sem.run_bind,hzr,Result.andThen_ok,run_underlying H.und,run_sizeOf w HE.info,HE.cellsOf,hpm,hc',Sem.run_pure]
 ·cases h
end Go.Ab
namespace Go.Ab
open Go.RowKit
def jZ {α:Type}:List (Nat×α)→Nat→Bool
 |[],_=>true
 |(i,_)::r,k=>i==k&&jZ r (k+1)
def i9 (s:Nat):List AV→Bool
 |[]=>true
 |x::r=>x.solid&&decide (x.cells.length=s)&&i9 s r
theorem l8 {s:Nat}:∀{l:List AV},i9 s l=true→∀x,x∈l→x.solid=true∧x.cells.length=s
 |[],_,x,hx=>by cases hx
 |y::r,h,x,hx=>by
  simp only[i9,Bool.and_eq_true,decide_eq_true_eq] at h
  cases hx with
  |head=>exact h.1
  |tail _ hx=>exact l8 h.2 x hx
theorem vZ:∀(a b c d:List AV),b.length=d.length→b9 (a++b++c) a.length d=a++d++c
 |[],b,c,d,h=>by
  simp only[List.nil_append,List.length_nil]
  induction b generalizing d with
  |nil=>
   cases d with
   |nil=>cases c<;>rfl
   |cons _ _=>cases h
  |cons x b ih=>
   cases d with
   |nil=>cases h
   |cons y d=>simp only[List.cons_append,b9];rw[ih d (by simpa using h)]
 |x::a,b,c,d,h=>by
  have:=vZ a b c d h
  simp only[List.cons_append,List.length_cons,b9]
  rw[this]
theorem qG (s:Nat):∀(ps:List (Nat×AV)) (k:Nat) (pre:List AV),pre.length=k*s→jZ ps k=true→(∀p,p∈ps→p.2.solid=true∧p.2.cells.length=s)→
  rP (tZ s) (pre++List.replicate (ps.length*s) .top) ps=some (pre++b8 (ps.map (·.2)))
 |[],k,pre,_,_,_=>by simp[rP,b8]
 |(i,x)::r,k,pre,hp,hi,hs=>by
  simp only[jZ,Bool.and_eq_true,beq_iff_eq] at hi
  obtain⟨rfl,hi⟩:=hi
  have hx:=hs (i,x) List.mem_cons_self
  simp only at hx
  have h1:List.replicate (((i,x)::r).length*s) AV.top=List.replicate s .top++List.replicate (r.length*s) .top:=by
   rw[List.length_cons,Nat.succ_mul,Nat.add_comm,List.replicate_append_replicate]
  simp only[rP,tZ]
  rw[if_pos ⟨hx.1,hx.2,by simp[hp,Nat.succ_mul]⟩,h1,←List.append_assoc,←hp,vZ pre _ _ _ (by simp[hx.2])]
  rw[qG s r (i+1) (pre++x.cells) (by rw[List.length_append,hp,hx.2,Nat.succ_mul]) hi fun p hp'=>hs p (List.mem_cons_of_mem _ hp')]
  simp[b8]
theorem yG {P:Program} {τ:Tab} (hτ:TabOK P τ) {t e:TypeId} {ti ei:TI} (ht:aJ τ t=some ti) (hk:ti.k=.slice e) (he:aJ τ e=some ei) (hpos:0 < ei.size) {n:Nat} {ps:Array (Nat×Operand)} {ty:TypeId} {ρ:Operand→AV}
  (hn:ps.size=n) (hidx:jZ ps.toList 0=true) (hsz:i9 ei.size (ps.toList.map fun p=>ρ p.2)=true) (hbig:n*ei.size≤16777216):
  jF P (.buildSlice t n ps) ty ρ (.sl ei.size (ps.toList.map fun p=>ρ p.2) .full):=by
 intro μ F w ρc o hf ho hty hr
 obtain⟨ft,dt,zt,HT⟩:=TI.spec hτ ht
 obtain⟨fe,de,ze,HE⟩:=TI.spec hτ he
 have hfit:=HT.fits
 rw[hk] at hfit
 have hdd:dt=.slice e:=by
  cases dt<;>simp[TK.fits] at hfit
  rw[hfit]
 subst hdd
 have hrp:∀p,p∈ps.toList→bP μ F w (ρ p.2) (ρc p.2):=by
  intro p hp
  refine hr p.2 ?_
  simp only[Op.operands]
  rw[List.mem_toArray,List.mem_map]
  exact⟨p,hp,rfl⟩
 have hsp:=l8 hsz
 have hzc:=HE.zcells μ F w
 have hzs:ze.cells.size=ei.size:=by rw[hzc.size,HE.len]
 let z0:Array Value:=(Array.range (n*ei.size)).map fun k=>ze.cells[k%ze.cells.size]!
 have hz0:IS μ F w (List.replicate (n*ei.size) .top) z0:=by
  refine⟨by simp[z0],?_,?_⟩
  ·intro i u hu
   have hi:i < n*ei.size:=by
    have:=(Array.getElem?_eq_some_iff.1 hu).1
    simpa [z0] using this
   have hm:i%ze.cells.size < ze.cells.size:=Nat.mod_lt _ (by omega)
   simp only[z0,Array.getElem?_map,Array.getElem?_range,hi,if_true,Option.map_some,Option.some.injEq] at hu
   rw[getElem!_pos ze.cells _ hm] at hu
   exact hzc.one _ u (by rw[Array.getElem?_eq_getElem hm,hu])
  ·intro i y u hy hu
   rw[List.getElem?_replicate] at hy
   split at hy<;>cases hy
   exact .top _
 have hlen:(ps.toList.map fun p=>(p.1,ρ p.2)).length=n:=by simp[hn]
 have hfull:=qG ei.size (ps.toList.map fun p=>(p.1,ρ p.2)) 0 [] (by simp) (by
  have:∀(l:List (Nat×Operand)) (k:Nat),jZ l k=true→jZ (l.map fun p=>(p.1,ρ p.2)) k=true:=by
   intro l
   induction l with
   |nil=>intro k _;rfl
   |cons p r ih=>
    intro k h
    simp only[jZ,List.map_cons,Bool.and_eq_true] at h ⊢
    exact⟨h.1,ih _ h.2⟩
  exact this _ _ hidx) (by
  intro p hp
  obtain⟨q,hq,rfl⟩:=List.mem_map.1 hp
  exact hsp _ (List.mem_map.2 ⟨q,hq,rfl⟩))
 rw[hlen,List.nil_append,List.nil_append,List.map_map] at hfull
 obtain⟨c',hc',hcells⟩:=nE (μ:=μ) (F:=F) (w:=w) (place:=tZ ei.size) (placec:=fun i=>some (i*ei.size,ei.size)) (ρ:=ρ) (ρc:=ρc) (fun i q hq=>hq) ps.toList _ z0 _ hz0 hrp hfull
 have hb:=fL w (.cells c' e)
 have hnew:({w with heap:=w.heap.push (.cells c' e)}:World).heap[w.heap.size]? =some (.cells c' e (0,0)):=by simp
 have hpm:(ps.map fun p=>(p.1,ρc p.2)).toList=ps.toList.map fun p=>(p.1,ρc p.2):=by simp
 have hxl:(ps.toList.map fun p=>ρ p.2).length=n:=by simp[hn]
 refine⟨.slice (some ⟨w.heap.size,0,none⟩) n n,_,?_,hb,?_⟩
 ·have hze:(zeroValue e).run P w=.ok ze w:=by simp[zeroValue,typeInfo,HE.info,HE.zero]
  simp only[execOp,ho,Instr.buildSlice,Sem.run_bind,run_underlying HT.und,Result.andThen_ok,run_sizeOf w HE.info,HE.cellsOf]
  rw[if_neg (by simpa using hbig)]
  by_cases h0:n*ei.size=0
  ·rw[if_pos h0]
   have hz':(Array.range (n*ei.size)).map (fun k=>(#[]:Array Value)[k%(#[]:Array Value).size]!)=z0:=by simp[z0,h0]
   simp only[Sem.run_bind,Sem.run_pure,Result.andThen_ok,hz',hpm,hc']
   simp[newRow]
  ·rw[if_neg h0]
   simp only[Sem.run_bind,hze,Sem.run_pure,Result.andThen_ok]
   have hz':(Array.range (n*ei.size)).map (fun k=>ze.cells[k%ze.cells.size]!)=z0:=rfl
   simp only[hz',hpm,hc']
   simp[newRow]
 ·have hR:=r4 (μ:=μ) (F:=F) (w:={w with heap:=w.heap.push (.cells c' e)}) (sz:=ei.size) (xs:=ps.toList.map fun p=>ρ p.2) (t:=.full) (A:=some ⟨w.heap.size,0,none⟩) (cap:=n) (b:=w.heap.size) (o:=0) (vals:=fun p=>c'.getD p undef)
   (fun x hx=>(hsp x hx).2) (by rw[hxl];exact Nat.le_refl _) (fun _=>rfl) (by
    intro p c hc
    have hc2:(b8 (ps.toList.map fun p=>ρ p.2))[p]? =some c:=hc
    have hp:p < c'.size:=by
     rw[hcells.size]
     exact (List.getElem?_eq_some_iff.1 hc2).1
    have hval:c'[p]? =some (c'.getD p undef):=by simp[Array.getD,hp]
    refine⟨hcells.one p _ hval,by rw[Nat.zero_add,cF hnew];exact hval,hf.new (Nat.le_refl _),(hcells.rep p c _ hc2 hval).later hb⟩) (by simp[mS,hn])
  rw[hxl] at hR
  exact hR
def rK (x:Option AV) (d:Nat):Option Int:=
 match x with
 |none=>some d
 |some (.int _ n)=>some n
 |_=>none
theorem cZ {P:Program} {w:World} {k:IntKind} {i:Int} {y:Nat} {code:BoundsCode} (h0:0≤i) (h1:i≤y):(Instr.sliceBound (.int k i) y code).run P w=.ok i.toNat w:=by
 simp[Instr.sliceBound,asIntOf,h0,h1]
theorem kO {P:Program} {w:World} {isS:Bool} {n m:Nat} {L H:Option Value} {l h:Int} (hL:(L=none∧l=0)∨∃k,L=some (.int k l)) (hH:(H=none∧h=n)∨∃k,H=some (.int k h)) (h0:0≤l) (h1:l≤h) (h2:h≤m):
  (Instr.sliceBounds isS n m L H none).run P w=.ok (l.toNat,h.toNat,m) w:=by
 have a1:0≤h:=by omega
 have a2:l≤((h.toNat:Nat):Int):=by omega
 rcases hL with ⟨rfl,rfl⟩|⟨k,rfl⟩<;>rcases hH with ⟨rfl,rfl⟩|⟨k',rfl⟩
 ·simp[Instr.sliceBounds]
 ·simp[Instr.sliceBounds,cZ a1 h2]
 ·simp only[Int.toNat_natCast] at a2
  simp[Instr.sliceBounds,cZ h0 a2]
 ·simp[Instr.sliceBounds,cZ a1 h2,cZ h0 a2]
theorem iD {μ:Mu} {F:c8} {w:World} {ρ:Operand→AV} {ρc:Operand→Value} {X:Option Operand} {d:Nat} {l:Int} (h:rK (X.map ρ) d=some l) (hr:∀x,X=some x→bP μ F w (ρ x) (ρc x)):
  (X.map ρc=none∧l=d)∨∃k,X.map ρc=some (.int k l):=by
 cases X with
 |none=>
  simp[rK] at h
  exact .inl ⟨rfl,h.symm⟩
 |some x=>
  have hy:=hr x rfl
  simp only[Option.map_some] at h ⊢
  generalize ρc x=u at hy ⊢
  cases hρ:ρ x with
  |int k m=>
   rw[hρ] at h hy
   simp only[rK,Option.some.injEq] at h
   subst h
   cases hy
   exact .inr ⟨k,rfl⟩
  |_=>rw[hρ] at h;simp[rK] at h
theorem MA {P:Program} {τ:Tab} (hτ:TabOK P τ) {t:TypeId} {ti:TI} (ht:aJ τ t=some ti) (hk:ti.k=.str) {X:Operand} {L H:Option Operand} {ty:TypeId} {ρ:Operand→AV} {s:List UInt8} {l h:Int}
  (hX:ρ X=.str s) (hL:rK (L.map ρ) 0=some l) (hH:rK (H.map ρ) s.length=some h) (h0:0≤l) (h1:l≤h) (h2:h≤s.length):
  jF P (.slice t X L H none) ty ρ (.str ((s.take h.toNat).drop l.toNat)):=by
 refine b7 ?_
 intro μ F w ρc o ho hty hr
 have hx:=hr X (by simp[Op.operands])
 rw[hX] at hx
 generalize hv:ρc X=v at hx
 cases hx
 obtain⟨ft,dt,zt,HT⟩:=TI.spec hτ ht
 have hf:=HT.fits
 rw[hk] at hf
 have hdd:dt=.string:=by
  cases dt<;>simp[TK.fits] at hf
  rfl
 subst hdd
 have hb:(Instr.sliceBounds false (⟨s.toArray⟩:ByteArray).size (⟨s.toArray⟩:ByteArray).size (L.map ρc) (H.map ρc) none).run P w=.ok (l.toNat,h.toNat,s.length) w:=by
  rw[nH]
  exact kO (iD hL fun x hx=>hr x (by simp[Op.operands,hx])) (iD hH fun x hx=>hr x (by simp[Op.operands,hx])) h0 h1 h2
 refine⟨_,?_,.str _⟩
 simp only[execOp,ho,hv,Instr.sliceAt,Sem.run_bind,run_underlying HT.und,Result.andThen_ok,Instr.slice,Option.map_none,Option.isSome_none,Bool.false_eq_true,if_false,Sem.run_pure,hb]
 congr 3
 have:((⟨s.toArray⟩:ByteArray).extract l.toNat h.toNat).data=((s.take h.toNat).drop l.toNat).toArray:=by
  apply Array.ext'
  simp[ByteArray.data_extract,List.drop_take]
 cases hE:(⟨s.toArray⟩:ByteArray).extract l.toNat h.toNat
 rw[hE] at this
 simp only at this
 rw[this]
theorem Q7 {P:Program} {τ:Tab} (hτ:TabOK P τ) {t e:TypeId} {ti ei:TI} (ht:aJ τ t=some ti) (hk:ti.k=.slice e) (he:aJ τ e=some ei) {X:Operand} {L H:Option Operand} {ty:TypeId} {ρ:Operand→AV} {sz:Nat} {xs:List AV} {tg:eE} {l h:Int}
  (hX:ρ X=.sl sz xs tg) (hL:rK (L.map ρ) 0=some l) (hH:rK (H.map ρ) xs.length=some h) (h0:0≤l) (h1:l≤h) (h2:h≤xs.length) (hsz:sz=ei.size):
  jF P (.slice t X L H none) ty ρ (.sl sz ((xs.take h.toNat).drop l.toNat) .none):=by
 refine b7 ?_
 intro μ F w ρc o ho hty hr
 have hx:=hr X (by simp[Op.operands])
 rw[hX] at hx
 generalize hv:ρc X=v at hx
 obtain⟨A,cap,ad,vals,rfl,hs,hcap,hA,hone,hcell,hrep,htag⟩:=hx.sl_inv
 obtain⟨ft,dt,zt,HT⟩:=TI.spec hτ ht
 obtain⟨fe,de,ze,HE⟩:=TI.spec hτ he
 have hf:=HT.fits
 rw[hk] at hf
 have hdd:dt=.slice e:=by
  cases dt<;>simp[TK.fits] at hf
  rw[hf]
 subst hdd
 have hb:=kO (P:=P) (w:=w) (isS:=true) (n:=xs.length) (m:=cap) (iD (d:=0) hL fun x hx=>hr x (by simp[Op.operands,hx])) (iD hH fun x hx=>hr x (by simp[Op.operands,hx])) h0 h1 (by omega)
 obtain⟨ln,rfl⟩:=Int.eq_ofNat_of_zero_le h0
 obtain⟨hn,rfl⟩:=Int.eq_ofNat_of_zero_le (show 0≤h by omega)
 simp only[Int.toNat_natCast] at hb ⊢
 have hlen:((xs.take hn).drop ln).length=hn - ln:=by simp;omega
 have hget:∀(i:Nat) (x:AV),((xs.take hn).drop ln)[i]? =some x→xs[ln+i]? =some x:=by
  intro i x hx
  rw[List.getElem?_drop,List.getElem?_take] at hx
  split at hx
  ·exact hx
  ·cases hx
 refine⟨.slice (if cap=ln then A else A.map (·.add (ln*sz))) ((xs.take hn).drop ln).length (cap - ln),?_,?_⟩
 ·simp only[execOp,ho,hv,Instr.sliceAt,Sem.run_bind,run_underlying HT.und,Result.andThen_ok,Instr.slice,Option.map_none,hb,run_sizeOf w HE.info,HE.cellsOf,Sem.run_pure,hlen,hsz]
 ·have hsh:∀i j:Nat,ln*sz+(i*sz+j)=(ln+i)*sz+j:=fun i j=>by rw[Nat.add_mul,Nat.add_assoc]
  refine .sl _ _ _ _ _ ⟨ad.block,ad.off+ln*sz,none⟩ (fun p=>vals (ln*sz+p)) ?_ (by rw[hlen];omega) ?_ ?_ ?_ ?_ trivial
  ·intro x hx
   exact hs x (List.mem_of_mem_take (List.mem_of_mem_drop hx))
  ·intro h3
   rw[hlen] at h3
   obtain⟨h4,h5⟩:=hA (by omega)
   rw[if_neg (by omega),h4]
   refine⟨?_,rfl⟩
   obtain⟨bb,oo,ss⟩:=ad
   simp only at h5
   subst h5
   simp[Addr.add_lit]
  ·intro i x j c hx hj
   show (vals _).oneCell'=true
   rw[hsh]
   exact hone _ _ _ _ (hget i x hx) hj
  ·intro i x j c hx hj
   have:=hcell _ _ _ _ (hget i x hx) hj
   simp only
   rw[Nat.add_assoc,hsh]
   exact this
  ·intro i x j c hx hj
   show bP _ _ _ _ (vals _)
   rw[hsh]
   exact hrep _ _ _ _ (hget i x hx) hj
theorem qH {P:Program} {τ:Tab} (hτ:TabOK P τ) {t:TypeId} {ix:AV} {n:Nat} {ei:TI} (h:IA τ t ix=some (n,ei)):
  ∃k i len e fe de ze,ix=.int k i∧P.underlying t=some (.array len e)∧0≤i∧i < len∧n=i.toNat∧KA P e ei fe de ze:=by
 unfold IA at h
 split at h
 case h_2=>cases h
 rename_i ti k i hi
 split at h
 case h_2=>cases h
 rename_i len e hk
 split at h
 case h_2=>cases h
 rename_i ei' hei
 split at h
 case isFalse=>cases h
 rename_i hb
 cases h
 obtain⟨f,d,z,H⟩:=TI.spec hτ hi
 obtain⟨fe,de,ze,HE⟩:=TI.spec hτ hei
 have hf:=H.fits
 rw[hk] at hf
 have hdd:d=.array len e:=by
  cases d<;>simp[TK.fits] at hf
  rw[hf.1,hf.2]
 subst hdd
 exact⟨k,i,len,e,fe,de,ze,rfl,H.und,hb.1,hb.2,rfl,HE⟩
theorem CT {P:Program} {t e:TypeId} {len:Nat} {i:Int} {k:IntKind} {ei:TI} {fe:TypeInfo} {de:TypeDesc} {ze:Value} (hu:P.underlying t=some (.array len e)) (h0:0≤i) (h1:i < len) (HE:KA P e ei fe de ze) (w:World) (b o:Nat):
  (Instr.indexAt t (.pointer (some ⟨b,o,none⟩)) (.int k i)).run P w=.ok (.pointer (some ⟨b,o+i.toNat*ei.size,none⟩)) w:=by
 simp[Instr.indexAt,asIntOf,run_underlying hu,Instr.sureAddr,h0,h1,run_sizeOf w HE.info,HE.cellsOf,Addr.add_lit]
def a63 (τ:Tab) (t:TypeId) (x ix:AV):Option AV:=
 match x,IA τ t ix with
 |.ref cells,some (n,ei)=>some (.ref (cells.drop (n*ei.size)))
 |_,_=>none
theorem a2y {P:Program} {τ:Tab} (hτ:TabOK P τ) {t:TypeId} {x ix:Operand} {ty:TypeId} {ρ:Operand→AV} {r:AV} (h:a63 τ t (ρ x) (ρ ix)=some r):jF P (.indexAddr t x ix) ty ρ r:=by
 refine b7 ?_
 intro μ F w ρc o ho hty hr
 have hx:=hr x (by simp[Op.operands])
 have hi:=hr ix (by simp[Op.operands])
 unfold a63 at h
 split at h
 case h_2=>cases h
 rename_i cells n ei e ha
 cases h
 obtain⟨k,i,len,el,fe,de,ze,hix,hu,h0,h1,rfl,HE⟩:=qH hτ ha
 rw[hix] at hi
 generalize hvi:ρc ix=vi at hi
 cases hi
 rw[e] at hx
 obtain⟨b,off,hv⟩:=iE hx
 rw[hv] at hx
 refine⟨_,?_,IF hx _⟩
 simp[execOp,ho,hv,hvi,CT hu h0 h1 HE]
def XU (M:aG) (τ:Tab) (t:TypeId) (x ix:AV):Option AV:=
 match x with
 |.ptr id off=>(match M.get id,IA τ t ix with|some (.cells _),some (n,ei)=>some (.ptr id (off+n*ei.size))|_,_=>none)
 |_=>none
theorem a1e {P:Program} {τ:Tab} (hτ:TabOK P τ) {t:TypeId} {x ix:Operand} {ty:TypeId} {ρ:Operand→AV} {M:aG} {r:AV} (h:XU M τ t (ρ x) (ρ ix)=some r):wR P (.indexAddr t x ix) ty ρ M r:=by
 intro μ F w ρc o hg ho hty hr
 have hx:=hr x (by simp[Op.operands])
 have hi:=hr ix (by simp[Op.operands])
 unfold XU at h
 split at h
 case h_2=>cases h
 rename_i id off e
 split at h
 case h_2=>cases h
 rename_i l n ei hM ha
 cases h
 obtain⟨k,i,len,el,fe,de,ze,hix,hu,h0,h1,rfl,HE⟩:=qH hτ ha
 rw[hix] at hi
 generalize hvi:ρc ix=vi at hi
 cases hi
 rw[e] at hx
 obtain⟨b,c,tb,hm,hv,_⟩:=p9 hg hM hx
 refine⟨.pointer (some ⟨b,off+i.toNat*ei.size,none⟩),w,?_,Below.refl _ _,?_⟩
 ·simp[execOp,ho,hv,hvi,CT hu h0 h1 HE]
 ·exact .ptr _ _ _ rfl (by rw[hm];simp) (fun b' hb'=>by rw[hm] at hb';cases hb';rfl)
theorem MC {P:Program} {xt yt:TypeId} {x y:Operand} {ty:TypeId} {ρ:Operand→AV} {a b:List UInt8} (hx:ρ x=.str a) (hy:ρ y=.str b) (hl:a.length+b.length≤9223372036854775807):jF P (.binOp .add xt x y yt) ty ρ (.str (a++b)):=by
 refine b7 ?_
 intro μ F w ρc o ho hty hr
 have h1:=hr x (by simp[Op.operands])
 have h2:=hr y (by simp[Op.operands])
 rw[hx] at h1
 rw[hy] at h2
 generalize hvx:ρc x=vx at h1
 generalize hvy:ρc y=vy at h2
 cases h1
 cases h2
 refine⟨_,?_,.str _⟩
 have hne:¬(((⟨a.toArray⟩:ByteArray).size+(⟨b.toArray⟩:ByteArray).size:Nat):Int) > IntKind.i64.max:=by
  rw[nH,nH]
  have:IntKind.i64.max=9223372036854775807:=by decide
  rw[this]
  omega
 simp only[execOp,ho,hvx,hvy,eqGuard,binOp,Op.stringOp,Sem.run_bind,Sem.run_pure,Result.andThen_ok]
 rw[if_neg hne]
 simp only[Sem.run_pure,Result.andThen_ok]
 congr 3
end Go.Ab
