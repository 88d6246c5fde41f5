/- Parts of the proof, one behind the other. No further condition. -/
import Derived.Test.YteliblifgdofgaaGreatDoorK06
import Derived.ProofKit
import Derived.ReadAgain
import Derived.Test.YteliblifgdofgaaGreatDoorTie
import Derived.Test.YteliblifgdofgaaGreatDoorCards
import Derived.Test.YteliblifgdofgaaGreatDoorK09
import Derived.OpenShut
import Derived.LaidMore
import Derived.Lay
import Derived.SevenTiedAt
import Derived.Stop.Joined
import Derived.Test.YteliblifgdofgaaGreatDoorK14
import Derived.Test.YteliblifgdofgaaGreatDoorK18
import Derived.Test.YteliblifgdofgaaGreatDoorK25
set_option linter.unusedVariables false
set_option linter.unusedSimpArgs false
set_option maxRecDepth 100000
set_option maxHeartbeats 8000000
namespace Go.Ab
open Go.RowKit
def ZS:Mu:=fun _=>none
def ZU:c8:=fun _ _=>False
theorem aA6 (b o:Nat):iO ZS ZU b o:=⟨fun h=>h,by rintro⟨id,h|⟨e,g,h,_⟩⟩<;>cases h⟩
structure pS (w:World) (l:List AV) (cs:List Value):Prop where
 len:l.length=cs.length
 rep:∀(i:Nat) (x:AV) (v:Value),l[i]? =some x→cs[i]? =some v→bP ZS ZU w x v∧v.oneCell'=true
def OZ (τ:Tab) (e:TypeId):Nat:=match aJ τ e with|some i=>i.size|none=>0
def elA (τ:Tab) (e:TypeId) (c:List AV):AV:=match aJ τ e with|some i=>(if i.agg=true then .agg c else c.getD 0 .top)|none=>.top
def FC (sh:TypeId→List AV→Prop):List (Nat×TypeId)→List AV→Prop
 |[],l=>l=[]
 |(_,ft)::r,l=>∃a b,l=a++b∧sh ft a∧FC sh r b
def shape (τ:Tab):Nat→TypeId→List AV→Prop
 |0,_,_=>False
 |n+1,t,l=>
  match aJ τ t with
  |none=>False
  |some i=>
   match i.k with
   |.int k=>∃m,l=[.int k m]∧(Lit.int k m).wf=true
   |.bool=>∃b,l=[.bool b]
   |.str=>∃s,l=[.str s]∧s.length≤reachBytes
   |.slice e=>∃xs,l=[.sl (OZ τ e) xs .none]∧xs.length≤reachBytes∧∀x,x∈xs→∃c,x=elA τ e c∧shape τ n e c
   |.struct fs=>FC (shape τ n) fs l
   |_=>False
def nB (τ:Tab):List (Nat×TypeId)→Nat→Nat→Bool
 |[],o,s=>o==s
 |(o',ft)::r,o,s=>o'==o&&(match aJ τ ft with|some fi=>nB τ r (o+fi.size) s|none=>false)
def tN (τ:Tab):Nat→TypeId→Bool
 |0,_=>false
 |n+1,t=>
  match aJ τ t with
  |none=>false
  |some i=>
   match i.k with
   |.int _=>true
   |.bool=>true
   |.str=>true
   |.slice e=>tN τ n e&&(match aJ τ e with|some ei=>decide (0 < ei.size)&&decide (0 < ei.bytes)&&(ei.agg||ei.size==1)|none=>false)
   |.struct fs=>fs.all (fun p=>tN τ n p.2)&&nB τ fs 0 i.size
   |_=>false
section
variable {H:Type} {enc:TypeId×Value→H} {P:Program} {τ:Tab} {w:World} {base:Nat} {spare:Nat→Bool} {held:Bool}
theorem lG {x:AV} {v:Value} (h:bP ZS ZU w x v) (h1:v.oneCell'=true):pS w [x] [v]:=by
 refine⟨rfl,?_⟩
 intro i y u hy hu
 cases i with
 |zero=>cases hy;cases hu;exact⟨h,h1⟩
 |succ i=>simp at hy
theorem RI {l m:List AV} {c d:List Value} (h:pS w l c) (k:pS w m d):pS w (l++m) (c++d):=by
 refine⟨by simp[h.len,k.len],?_⟩
 intro i x v hx hv
 by_cases hi:i < l.length
 ·rw[List.getElem?_append_left hi] at hx
  rw[List.getElem?_append_left (by rw[←h.len];exact hi)] at hv
  exact h.rep i x v hx hv
 ·rw[List.getElem?_append_right (by omega)] at hx
  rw[List.getElem?_append_right (by rw[←h.len];omega),←h.len] at hv
  exact k.rep _ x v hx hv
theorem zG {n:Nat} {cs:List Value} {size:Nat} (hlen:cs.length=size):∀(fs:List (Nat×TypeId)) (o:Nat),nB τ fs o size=true→o≤size→
  (∀p,p∈fs→∀fi,aJ τ p.2=some fi→∃l,pS w l ((cs.drop p.1).take fi.size)∧shape τ n p.2 l)→∃l,pS w l (cs.drop o)∧FC (shape τ n) fs l
 |[],o,h,ho,_=>by
  simp only[nB,beq_iff_eq] at h
  refine⟨[],⟨by simp[hlen,h],by simp⟩,rfl⟩
 |(o',ft)::r,o,h,ho,hall=>by
  simp only[nB,Bool.and_eq_true,beq_iff_eq] at h
  obtain⟨h1,h2⟩:=h
  subst h1
  split at h2
  case h_2=>cases h2
  rename_i fi hfi
  obtain⟨a,ha,hsa⟩:=hall (o',ft) List.mem_cons_self fi hfi
  have hle:o'+fi.size≤size:=by
   clear hall ha hsa
   have key:∀(r:List (Nat×TypeId)) (o:Nat),nB τ r o size=true→o≤size:=by
    intro r
    induction r with
    |nil=>intro o h;simp only[nB,beq_iff_eq] at h;omega
    |cons p r ih=>
     intro o h
     obtain⟨po,pt⟩:=p
     simp only[nB,Bool.and_eq_true,beq_iff_eq] at h
     obtain⟨h3,h4⟩:=h
     split at h4
     ·have:=ih _ h4;omega
     ·cases h4
   exact key r _ h2
  obtain⟨b,hb,hsb⟩:=zG hlen r (o'+fi.size) h2 hle (fun p hp=>hall p (List.mem_cons_of_mem _ hp))
  refine⟨a++b,?_,a,b,rfl,hsa,hsb⟩
  have e:cs.drop o'=(cs.drop o').take fi.size++cs.drop (o'+fi.size):=by
   rw[←List.drop_drop]
   exact (List.take_append_drop _ _).symm
  rw[e]
  exact RI ha hb
theorem oH {e:TypeId}:∀{l:List (DataW H)},(DataW.weightsAll P e l).all (·≤reachBytes)=true→∀{i:Nat} {d:DataW H},l[i]? =some d→(d.weights P e).all (·≤reachBytes)=true
 |[],_,i,_,hd=>by simp at hd
 |a::r,h,0,d,hd=>by
  cases hd
  simp only[DataW.weightsAll,List.all_append,Bool.and_eq_true] at h
  exact h.1
 |a::r,h,i+1,d,hd=>by
  simp only[DataW.weightsAll,List.all_append,Bool.and_eq_true] at h
  exact oH h.2 hd
theorem cO:∀{ts:List TypeId} {l:List (DataW H)},(DataW.weightsEach P ts l).all (·≤reachBytes)=true→∀{i:Nat} {t:TypeId} {d:DataW H},ts[i]? =some t→l[i]? =some d→(d.weights P t).all (·≤reachBytes)=true
 |[],_,_,i,_,_,ht,_=>by simp at ht
 |_::_,[],_,i,_,_,_,hd=>by simp at hd
 |t::ts,a::r,h,0,_,d,ht,hd=>by
  cases hd
  cases ht
  simp only[DataW.weightsEach,List.all_append,Bool.and_eq_true] at h
  exact h.1
 |t::ts,a::r,h,i+1,_,d,ht,hd=>by
  simp only[DataW.weightsEach,List.all_append,Bool.and_eq_true] at h
  exact cO h.2 ht hd
theorem yU (hτ:TabOK P τ):∀(n fuel:Nat) (t:TypeId) (cs:List Value) (x:DataW H×List MemPlace),tN τ n t=true→DataW.trod enc P w base spare held fuel t cs=some x→(x.1.weights P t).all (·≤reachBytes)=true→
  ∃l,pS w l cs∧shape τ n t l
 |0,_,_,_,_,h,_,_=>by cases h
 |n+1,fuel,t,cs,x,hp,h,hwt=>by
  simp only[tN] at hp
  split at hp
  case h_1=>cases hp
  rename_i i hi
  obtain⟨f,fd,z,HI⟩:=TI.spec hτ hi
  have hf:=HI.fits
  have hu:=HI.und
  have hfuel:∃m,fuel=m+1:=by
   cases fuel with
   |zero=>simp[DataW.trod] at h
   |succ m=>exact⟨m,rfl⟩
  obtain⟨m,rfl⟩:=hfuel
  have hsh:∀l,shape τ (n+1) t l=(match i.k with
   |.int k=>∃m,l=[.int k m]∧(Lit.int k m).wf=true
   |.bool=>∃b,l=[.bool b]
   |.str=>∃s,l=[.str s]∧s.length≤reachBytes
   |.slice e=>∃xs,l=[.sl (OZ τ e) xs .none]∧xs.length≤reachBytes∧∀x,x∈xs→∃c,x=elA τ e c∧shape τ n e c
   |.struct fs=>FC (shape τ n) fs l
   |_=>False):=fun l=>by simp only[shape,hi]
  split at hp
  ·rename_i k hk
   rw[hk] at hf
   cases fd<;>simp[TK.fits] at hf
   subst hf
   obtain⟨n0,hcs,_,hwf⟩:=DataW.trod_int hu h
   subst hcs
   refine⟨[.int k n0],lG (.int _ _) rfl,?_⟩
   rw[hsh,hk]
   exact⟨n0,rfl,hwf⟩
  ·rename_i hk
   rw[hk] at hf
   cases fd<;>simp[TK.fits] at hf
   obtain⟨b0,hcs,_⟩:=DataW.trod_bool hu h
   subst hcs
   refine⟨[.bool b0],lG (.bool _) rfl,?_⟩
   rw[hsh,hk]
   exact⟨b0,rfl⟩
  ·rename_i hk
   rw[hk] at hf
   cases fd<;>simp[TK.fits] at hf
   obtain⟨s0,hcs,hx0,_⟩:=DataW.trod_string hu h
   subst hcs
   rw[hx0] at hwt
   have hle:s0.data.toList.length≤reachBytes:=by simpa [DataW.weights] using hwt
   have hs:=bP.str (μ:=ZS) (F:=ZU) (w:=w) s0.data.toList
   refine⟨[.str s0.data.toList],lG (by simpa using hs) rfl,?_⟩
   rw[hsh,hk]
   exact⟨_,rfl,hle⟩
  ·rename_i e hk
   rw[hk] at hf
   cases fd<;>simp[TK.fits] at hf
   subst hf
   simp only[Bool.and_eq_true] at hp
   obtain⟨hpe,hp2⟩:=hp
   split at hp2
   case h_2=>cases hp2
   rename_i ei hei
   simp only[Bool.and_eq_true,decide_eq_true_eq] at hp2
   obtain⟨⟨hpos,hby⟩,hone⟩:=hp2
   obtain⟨fe,de,ze,HE⟩:=TI.spec hτ hei
   have hce:P.cellsOf e=ei.size:=HE.cellsOf
   have hsz:OZ τ e=ei.size:=by simp[OZ,hei]
   rcases DataW.trod_slice hu h with ⟨rfl,_⟩|⟨a,len,cap,elems,rest,m',hm',rfl,hx0,hb,hlc,hcm,hel,hall,_⟩
   ·refine⟨[.sl ei.size [] .none],lG ?_ rfl,?_⟩
    ·exact bP.sl _ [] .none none 0 ⟨0,0,none⟩ (fun _=>undef) (by simp) (by simp) (by simp) (by simp) (by simp) (by simp) trivial
    ·rw[hsh,hk]
     exact⟨[],by rw[hsz],by simp,by simp⟩
   ·rw[hx0] at hwt
    have hbe:P.bytesOf e=ei.bytes:=by simp[Program.bytesOf,HE.info,HE.bytes]
    simp only[DataW.weights,hu,List.all_cons,List.all_append,Bool.and_eq_true,decide_eq_true_eq,List.length_map] at hwt
    obtain⟨hw1,hw2,_⟩:=hwt
    rw[hbe,hel] at hw1
    have hlr:len≤reachBytes:=by
     have h1:(len+rest.length)*1≤(len+rest.length)*ei.bytes:=Nat.mul_le_mul_left _ hby
     omega
    have hget:∀i,i < len→∃cs' l,(w.cells? base (a.add (i*ei.size)) ei.size=some cs')∧pS w l cs'∧shape τ n e l:=by
     intro i hi'
     have h1:=hall i hi'
     rw[hce] at h1
     have h2:∃y,elems[i]? =some y:=⟨_,List.getElem?_eq_getElem (by omega)⟩
     obtain⟨y,hy⟩:=h2
     rw[hy] at h1
     obtain⟨cs',h3,h4⟩:=Option.bind_eq_some_iff.1 h1
     obtain⟨l,h5,h6⟩:=yU hτ n _ e cs' y hpe h4 (oH hw2 (i:=i) (by rw[List.getElem?_map,hy];rfl))
     exact⟨cs',l,h3,h5,h6⟩
    have hget':∀i:Nat,∃p:List Value×List AV,i < len→(w.cells? base (a.add (i*ei.size)) ei.size=some p.1)∧pS w p.2 p.1∧shape τ n e p.2:=by
     intro i
     by_cases hi':i < len
     ·obtain⟨cs',l,h1,h2,h3⟩:=hget i hi'
      exact⟨(cs',l),fun _=>⟨h1,h2,h3⟩⟩
     ·exact⟨([],[]),fun h=>absurd h hi'⟩
    obtain⟨CL,hCL0⟩:=Classical.axiomOfChoice hget'
    obtain⟨C,hC⟩:∃C:Nat→List Value,∀i,C i=(CL i).1:=⟨_,fun _=>rfl⟩
    obtain⟨L,hL0⟩:∃L:Nat→List AV,∀i,L i=(CL i).2:=⟨_,fun _=>rfl⟩
    have hCL:∀i,i < len→(w.cells? base (a.add (i*ei.size)) ei.size=some (C i))∧pS w (L i) (C i)∧shape τ n e (L i):=by
     intro i hi'
     rw[hC,hL0]
     exact hCL0 i hi'
    have hlenL:∀i,i < len→(L i).length=ei.size:=by
     intro i hi'
     obtain⟨h1,h2,_⟩:=hCL i hi'
     rw[h2.len]
     exact (World.cells?_some h1).2.1
    have hcells:∀i,i < len→(elA τ e (L i)).cells=L i:=by
     intro i hi'
     have h1:=hlenL i hi'
     simp only[elA,hei]
     by_cases hagg:ei.agg=true
     ·simp[hagg,AV.cells]
     ·have h1':ei.size=1:=by
       rcases Bool.or_eq_true _ _ ▸ hone with h|h
       ·exact absurd h hagg
       ·simpa using h
      rw[if_neg hagg]
      rw[h1'] at h1
      match hL:L i,h1 with
      |[y],_=>
       obtain⟨g1,g2,g3⟩:=hCL i hi'
       have hcl:(C i).length=1:=by rw[←g2.len,hL];rfl
       obtain⟨v,hv⟩:∃v,(C i)[0]? =some v:=⟨_,List.getElem?_eq_getElem (by omega)⟩
       have hr:=g2.rep 0 y v (by rw[hL];rfl) hv
       simp only[List.getD_cons_zero]
       cases y<;>first|rfl|skip
       obtain⟨c,rfl,_⟩:=hr.1.agg_inv
       simp[Value.oneCell'] at hr
    have hspot:0 < len→a.spot=none:=by
     intro h0
     obtain⟨h1,_⟩:=hCL 0 h0
     obtain⟨_,g2,g3⟩:=World.cells?_some h1
     have h4:=g3 0 hpos
     have h5:∃v,(C 0)[0]? =some v:=⟨_,List.getElem?_eq_getElem (by omega)⟩
     obtain⟨v,hv⟩:=h5
     rw[hv] at h4
     simpa [Addr.add] using World.cell?_spot h4
    refine⟨[.sl ei.size ((List.range len).map fun i=>elA τ e (L i)) .none],lG ?_ rfl,?_⟩
    ·have hxs:∀(i:Nat) (x:AV),((List.range len).map fun i=>elA τ e (L i))[i]? =some x→i < len∧x=elA τ e (L i):=by
      intro i x hx
      simp only[List.getElem?_map,List.getElem?_range,Option.map_eq_some_iff] at hx
      by_cases hi':i < len
      ·simp[hi'] at hx
       exact⟨hi',hx.symm⟩
      ·simp[hi'] at hx
     have hl0:((List.range len).map fun i=>elA τ e (L i)).length=len:=by simp
     have hv:Value.slice (some a) len cap=Value.slice (some a) ((List.range len).map fun i=>elA τ e (L i)).length cap:=by rw[hl0]
     rw[hv]
     refine bP.sl ei.size _ .none (some a) cap a (fun p=>(C (p/ei.size)).getD (p%ei.size) undef) ?_ (by rw[hl0];exact hlc) ?_ ?_ ?_ ?_ trivial
     ·intro x hx
      obtain⟨i,hi'⟩:=List.getElem?_of_mem hx
      obtain⟨h1,rfl⟩:=hxs i x hi'
      rw[hcells i h1]
      exact hlenL i h1
     ·intro h0
      rw[hl0] at h0
      exact⟨rfl,hspot h0⟩
     all_goals
      intro i x j c hx hc
      obtain⟨h1,rfl⟩:=hxs i x hx
      rw[hcells i h1] at hc
      obtain⟨g1,g2,g3⟩:=hCL i h1
      have hj:j < ei.size:=by rw[←hlenL i h1];exact (List.getElem?_eq_some_iff.1 hc).1
      have hd:(i*ei.size+j)/ei.size=i:=by
       rw[Nat.mul_comm,Nat.mul_add_div hpos,Nat.div_eq_of_lt hj,Nat.add_zero]
      have hmd:(i*ei.size+j)%ei.size=j:=by
       rw[Nat.mul_comm,Nat.mul_add_mod,Nat.mod_eq_of_lt hj]
      have hcl:j < (C i).length:=by rw[←g2.len,hlenL i h1];exact hj
      have hval:(C i).getD j undef=(C i)[j]:=by simp[List.getD,List.getElem?_eq_getElem hcl]
      have hr:=g2.rep j c _ hc (List.getElem?_eq_getElem hcl)
      simp only[hd,hmd,hval]
     ·exact hr.2
     ·refine⟨?_,aA6 _ _⟩
      obtain⟨_,k2,k3⟩:=World.cells?_some g1
      have k4:=k3 j hj
      rw[List.getElem?_eq_getElem hcl] at k4
      rw[←k4]
      have hs:=hspot (by omega)
      obtain⟨ab,ao,ags⟩:=a
      simp only at hs
      subst hs
      congr 1
      rw[Addr.add_lit,Addr.add_lit]
      simp[Nat.add_assoc]
     ·exact hr.1
    ·rw[hsh,hk]
     refine⟨_,by rw[hsz],by simp;exact hlr,?_⟩
     intro x hx
     obtain⟨i,hi',rfl⟩:=List.mem_map.1 hx
     exact⟨L i,rfl,(hCL i (List.mem_range.1 hi')).2.2⟩
  ·rename_i fs hk
   rw[hk] at hf
   cases fd<;>simp[TK.fits] at hf
   rename_i gs
   simp only[Bool.and_eq_true] at hp
   obtain⟨hpf,hoffs⟩:=hp
   obtain⟨xs,n',_,hx0,hcl,hxl,hget⟩:=DataW.trod_struct hu h
   rw[hx0] at hwt
   simp only[DataW.weights,hu] at hwt
   have hci:P.cellsOf t=i.size:=HI.cellsOf
   rw[hci] at hcl
   obtain⟨l,h1,h2⟩:=zG (n:=n) hcl fs 0 hoffs (Nat.zero_le _) (by
    intro p hpm fi hfi
    have hp1:tN τ n p.2=true:=List.all_eq_true.1 hpf p hpm
    rw[←hf] at hpm
    obtain⟨g,hg,rfl⟩:=List.mem_map.1 hpm
    obtain⟨j,hj⟩:=List.getElem?_of_mem hg
    have hgj:gs[j]? =some g:=by simpa using hj
    have h3:=hget j g hgj
    have hj2:j < xs.length:=by rw[hxl];exact (Array.getElem?_eq_some_iff.1 hgj).1
    rw[List.getElem?_eq_getElem hj2] at h3
    obtain⟨ff,fd',fz,HF⟩:=TI.spec hτ hfi
    rw[HF.cellsOf] at h3
    exact yU hτ n _ _ _ _ hp1 h3 (cO hwt (i:=j) (by rw[List.getElem?_map,hj];rfl) (by rw[List.getElem?_map,List.getElem?_eq_getElem hj2];rfl)))
   refine⟨l,by simpa using h1,?_⟩
   rw[hsh,hk]
   exact h2
  ·cases hp
end
end Go.Ab
namespace Go.Ab
open Go.RowKit Go.ChangeShapes
section
variable {H:Type} {enc:TypeId×Value→H} {P:Program}
theorem mF {τ:Tab} (hτ:TabOK P τ) {n:Nat} {t:TypeId} (hp:tN τ n t=true) {w:World} {base:Nat} {spare:Nat→Bool} {held:Bool} {v:Value} {d:DataW H} {p:List MemPlace} (h:DataW.Trod enc P w base spare held t v d p)
  (hw:(d.weights P t).all (·≤reachBytes)=true) (hv:v.cells.toList=[v]):∃x,bP ZS ZU w x v∧shape τ n t [x]:=by
 obtain⟨fuel,hf⟩:=h
 rw[hv] at hf
 obtain⟨l,h1,h2⟩:=yU hτ n fuel t [v] _ hp hf hw
 have hl:=h1.len
 match l,hl with
 |[x],_=>exact⟨x,(h1.rep 0 x v rfl rfl).1,h2⟩
theorem pZ (hl:laidOutB P=true) {W W':World} (hb:Below W.heap.size W W') {sp:Nat→Bool}:∀{ts:List TypeId} {vs:List Value} {ds:List (DataW H)} {ps:List MemPlace},(∀t∈ts,P.readableRec t=true∧t < P.types.size)→
  DataW.TrodAll enc P W 0 (fun _=>true) true ts vs ds ps→(∀p∈ps,p.block < W.heap.size)→(∀p∈ps,sp p.block=true)→DataW.TrodAll enc P W' 0 sp true ts vs ds ps
 |[],[],[],_,_,h,_,_=>h
 |t::ts,v::vs,d::ds,_,hts,⟨p,q,h1,h2,e⟩,hlt,hs=>by
  subst e
  refine⟨p,q,?_,pZ hl hb (fun t ht=>hts t (List.mem_cons_of_mem _ ht)) h2 (fun x hx=>hlt x (List.mem_append_right _ hx)) (fun x hx=>hs x (List.mem_append_right _ hx)),rfl⟩
  exact WideElems.Trod_stays hl (hts t List.mem_cons_self).1 (hts t List.mem_cons_self).2 h1 (fun x hx=>hb.same (hlt x (List.mem_append_left _ hx))) (fun x hx=>hs x (List.mem_append_left _ hx))
 |[],_::_,_,_,_,h,_,_=>h.elim
 |[],[],_::_,_,_,h,_,_=>h.elim
 |_::_,[],_,_,_,h,_,_=>h.elim
 |_::_,_::_,[],_,_,h,_,_=>h.elim
theorem HV (hl:laidOutB P=true) {f:Func} {s:ChangeSpec} (hv:s.vars=[]) {tb:TypeId} (htb:P.underlying tb=some .bool) (hrt:f.resultTypes=#[tb]) (hts:∀t∈f.params.toList,P.readableRec t=true∧t < P.types.size)
  {W W':World} {args:Array Value} {ds gs:List (DataW H)} {before:List MemPlace} (hW:DataW.Whole enc P f.params.toList s.vars false W args.toList ds gs before) (hb:Below W.heap.size W W')
  (hres:(s.fn H (ds++gs)).results=[.lit (.bool true)]) (hargs:(s.fn H (ds++gs)).args=ds) (hvars:(s.fn H (ds++gs)).vars=[]):s.post enc P f false true false false W args (.bool true) W':=by
 have hlt:=hW.lt
 obtain⟨p,q,hA,hV,hps,_,_⟩:=id hW
 rw[hv] at hV
 obtain⟨hgs,hq⟩:=trodVars_none hV
 refine⟨ds,gs,before,[],p,[],hW,?_,?_,?_,hb.frame _,fun h=>by cases h⟩
 ·rw[hres,hrt]
  exact trodAll_mk1 (shut_bool htb true)
 ·rw[hargs]
  refine pZ hl hb hts hA ?_ ?_
  ·intro x hx
   exact hlt x (by rw[hps];exact List.mem_append_left _ hx)
  ·intro x hx
   simpa using hlt x (by rw[hps];exact List.mem_append_left _ hx)
 ·rw[hvars,hv]
  rfl
theorem CJ {g:FuncId} {args:List AV} (h:aO P g args (.bool true)) {w:World} {vs:Array Value} (hv:cN ZS ZU w args vs):Calls P g vs w fun e w'=>e=.returned (.bool true)∧Below w.heap.size w w':=by
 have hno:∀b o,¬jG ZS b o:=by rintro b o ⟨id,h|⟨e,g,h,_⟩⟩<;>cases h
 have hg:dY ZS ZU ⟨0,[]⟩ w:=by
  refine {dom:=fun id=>(by simp[ZS]),obj:=fun id l hM=>(by cases hM),spare:=fun id g hM=>(by cases hM),raw:=fun id g o vs t hM=>(by cases hM),inj:=?_,frm:=fun b o ho=>absurd ho (hno b o),fit:=⟨fun b o ho=>absurd ho (hno b o),fun b o h=>h.elim⟩}
  rintro i j b (h|⟨_,_,h⟩) _<;>cases h
 refine ((h ⟨0,[]⟩).2 ZS ZU w vs hg hv).mono ?_
 rintro e w' ⟨μ',M',h1,h2,h3⟩
 have hb:Below w.heap.size w w':=⟨h1.os,h1.tape,h1.output,h1.size,fun k hk=>h1.same k hk (hno k)⟩
 cases e with
 |returned v=>
  obtain⟨x,h4,h5⟩:=h3
  obtain⟨e,_⟩:=h5
  cases e
  cases h4
  exact⟨rfl,hb⟩
 |panicked ch=>
  obtain⟨x,v,_,_,e,_⟩:=h3
  cases e
 |outgrown=>exact h3.elim
end
end Go.Ab
namespace Go.Proofs.YteliblifgdofgaaGreatDoor
open Go.Ab Go.RowKit Go.ChangeShapes Go.WideShapes Go.ChangeAt
theorem Tryz.own:ownKnob Tryz.prog.godebug=none:=by kernel_rfl
theorem Tryz.laidOut:laidOutB Tryz.prog=true:=by kernel_rfl
theorem OT {t:TypeId} {W:World} {base:Nat} {v:Value} (ht:Tryz.prog.underlying t=some .string) (h:Value.okWide Tryz.prog W .any base t v):v.cells.toList=[v]:=by
 obtain⟨s,rfl⟩:=okWide_string ht h
 rfl
theorem G4 {t:TypeId} {k:IntKind} {W:World} {base:Nat} {v:Value} (ht:Tryz.prog.underlying t=some (.int k)) (h:Value.okWide Tryz.prog W .any base t v):v.cells.toList=[v]:=by
 obtain⟨n,rfl⟩:=okWide_int ht h
 rfl
theorem C6 {e t:TypeId} {W:World} {base:Nat} {v:Value} (ht:Tryz.prog.underlying t=some (.slice e)) (h:Value.okWide Tryz.prog W .any base t v):v.cells.toList=[v]:=by
 obtain⟨a,l,c,rfl⟩:=okWide_slice ht h
 rfl
theorem TZ {n:Nat} {t:TypeId} {x:AV} (h:Go.Ab.shape iR n t [x]) (hk:(aJ iR t).map (·.k)=some .str):∃s:aD,x=.str s∧s.length≤reachBytes:=by
 cases n with
 |zero=>exact h.elim
 |succ n=>
  simp only[Go.Ab.shape] at h
  cases hl:aJ iR t with
  |none=>rw[hl] at h;exact h.elim
  |some i=>
   rw[hl] at h hk
   simp only[Option.map_some,Option.some.injEq] at hk
   simp only[hk] at h
   obtain⟨s,hs,hb⟩:=h
   cases hs
   exact⟨s,rfl,hb⟩
theorem L7 {n:Nat} {t:TypeId} {k:IntKind} {x:AV} (h:Go.Ab.shape iR n t [x]) (hk:(aJ iR t).map (·.k)=some (.int k)):∃m:Int,x=.int k m∧(Lit.int k m).wf=true:=by
 cases n with
 |zero=>exact h.elim
 |succ n=>
  simp only[Go.Ab.shape] at h
  cases hl:aJ iR t with
  |none=>rw[hl] at h;exact h.elim
  |some i=>
   rw[hl] at h hk
   simp only[Option.map_some,Option.some.injEq] at hk
   simp only[hk] at h
   obtain⟨s,hs,hb⟩:=h
   cases hs
   exact⟨s,rfl,hb⟩
end Go.Proofs.YteliblifgdofgaaGreatDoor
namespace Go.Proofs.YteliblifgdofgaaGreatDoor
open Go.Ab Go.RowKit Go.ChangeShapes Go.WideShapes Go.ChangeAt
theorem rS {α:Type} {f:α→AV} {q:α→Prop}:∀{xs:List AV},(∀y,y∈xs→∃a,y=f a∧q a)→∃l:List α,xs=l.map f∧∀a,a∈l→q a
 |[],_=>⟨[],rfl,by simp⟩
 |x::r,h=>by
  obtain⟨a,rfl,ha⟩:=h x (by simp)
  obtain⟨l,rfl,hl⟩:=rS (f:=f) (q:=q) (xs:=r) (fun y hy=>h y (by simp[hy]))
  refine⟨a::l,rfl,fun b hb=>?_⟩
  rcases List.mem_cons.1 hb with rfl|hb
  ·exact ha
  ·exact hl b hb
end Go.Proofs.YteliblifgdofgaaGreatDoor
namespace Go.Proofs.YteliblifgdofgaaGreatDoor
open Go.Ab Go.RowKit Go.ChangeShapes Go.WideShapes Go.ChangeAt
theorem a98 {n:Nat} {ys:List AV} (h:∀z,z∈ys→∃c,z=AV.agg c∧Go.Ab.shape iR (n+4) 112 c):∃m:List Ch,ys=m.map Ch.av:=by
 obtain⟨m,rfl,_⟩:=rS (f:=Ch.av) (q:=fun _=>True) (xs:=ys) fun z hz=>by
  obtain⟨c,rfl,a,b,rfl,⟨p,rfl,_⟩,a2,b2,rfl,⟨g,rfl⟩,a3,b3,rfl,⟨d1,e1,rfl,⟨s,rfl,_⟩,d2,e2,rfl,⟨m,rfl,_⟩,d3,e3,rfl,⟨ns,rfl,_,hn⟩,rfl⟩,rfl⟩:=h z hz
  obtain⟨k,rfl,_⟩:=rS (f:=fun n:Int=>AV.int .i64 n) (q:=fun _=>True) (xs:=ns) fun u hu=>by
   obtain⟨c,rfl,n,rfl,_⟩:=hn u hu
   exact⟨n,rfl,trivial⟩
  exact⟨⟨p,g,⟨s,m,k⟩⟩,rfl,trivial⟩
 exact⟨m,rfl⟩
theorem VU {x:AV} (h:Go.Ab.shape iR 8 22 [x]):∃l:List Oo,x=AU l .none∧a6d l:=by
 obtain⟨xs,hx,hb,hall⟩:=h
 cases hx
 obtain⟨l,rfl,hl⟩:=rS (f:=Oo.av) (q:=fun x=>x.ch.length < 4611686018427387904) (xs:=xs) fun y hy=>by
  obtain⟨c,rfl,a,b,rfl,⟨m1,rfl,_⟩,a2,b2,rfl,⟨m2,rfl,_⟩,a3,b3,rfl,⟨m3,rfl,_⟩,a4,b4,rfl,⟨m4,rfl,_⟩,a5,b5,rfl,⟨m5,rfl,_⟩,a6,b6,rfl,⟨ys,rfl,hb,hz⟩,rfl⟩:=hall y hy
  obtain⟨m,rfl⟩:=a98 (n:=1) hz
  exact⟨⟨m1,m2,m3,m4,m5,m⟩,rfl,Nat.lt_of_le_of_lt (by simpa using hb) (by decide)⟩
 exact⟨l,rfl,Nat.lt_of_le_of_lt (by simpa using hb) (by decide),hl⟩
end Go.Proofs.YteliblifgdofgaaGreatDoor
