/- Parts of the proof, one behind the other. No further condition. -/
import Derived.Test.YtbcaejhhgkcgpaaGreatDoorK19
import Derived.ProofKit
import Derived.ReadAgain
import Derived.Test.YtbcaejhhgkcgpaaGreatDoorTie
import Derived.Test.YtbcaejhhgkcgpaaGreatDoorCards
import Derived.OpenShut
import Derived.LaidMore
import Derived.Lay
import Derived.SevenTiedAt
import Derived.Stop.Joined
set_option linter.unusedVariables false
set_option linter.unusedSimpArgs false
namespace Go.Ab
open Go.RowKit
def mu0:Mu:=fun _=>none
def fr0:Frm:=fun _ _=>False
theorem free0 (b o:Nat):Free mu0 fr0 b o:=⟨fun h=>h,by rintro⟨id,h|⟨e,g,h,_⟩⟩<;>cases h⟩
structure RepCs (w:World) (l:List AV) (cs:List Value):Prop where
 len:l.length=cs.length
 rep:∀(i:Nat) (x:AV) (v:Value),l[i]? =some x→cs[i]? =some v→Rep mu0 fr0 w x v∧v.oneCell'=true
def sizeT (τ:Tab) (e:TypeId):Nat:=match lookup τ e with|some i=>i.size|none=>0
def elA (τ:Tab) (e:TypeId) (c:List AV):AV:=match lookup τ e with|some i=>(if i.agg=true then .agg c else c.getD 0 .top)|none=>.top
def shapes (sh:TypeId→List AV→Prop):List (Nat×TypeId)→List AV→Prop
 |[],l=>l=[]
 |(_,ft)::r,l=>∃a b,l=a++b∧sh ft a∧shapes sh r b
def shape (τ:Tab):Nat→TypeId→List AV→Prop
 |0,_,_=>False
 |n+1,t,l=>
  match lookup τ t with
  |none=>False
  |some i=>
   match i.k with
   |.int k=>∃m,l=[.int k m]∧(Lit.int k m).wf=true
   |.bool=>∃b,l=[.bool b]
   |.str=>∃s,l=[.str s]∧s.length≤reachBytes
   |.slice e=>∃xs,l=[.sl (sizeT τ e) xs .none]∧xs.length≤reachBytes∧∀x,x∈xs→∃c,x=elA τ e c∧shape τ n e c
   |.struct fs=>shapes (shape τ n) fs l
   |_=>False
def offsOK (τ:Tab):List (Nat×TypeId)→Nat→Nat→Bool
 |[],o,s=>o==s
 |(o',ft)::r,o,s=>o'==o&&(match lookup τ ft with|some fi=>offsOK τ r (o+fi.size) s|none=>false)
def plainT (τ:Tab):Nat→TypeId→Bool
 |0,_=>false
 |n+1,t=>
  match lookup τ t with
  |none=>false
  |some i=>
   match i.k with
   |.int _=>true
   |.bool=>true
   |.str=>true
   |.slice e=>plainT τ n e&&(match lookup τ e with|some ei=>decide (0 < ei.size)&&decide (0 < ei.bytes)&&(ei.agg||ei.size==1)|none=>false)
   |.struct fs=>fs.all (fun p=>plainT τ n p.2)&&offsOK τ fs 0 i.size
   |_=>false
section
variable {H:Type} {enc:TypeId×Value→H} {P:Program} {τ:Tab} {w:World} {base:Nat} {spare:Nat→Bool} {held:Bool}
theorem repCs_one {x:AV} {v:Value} (h:Rep mu0 fr0 w x v) (h1:v.oneCell'=true):RepCs w [x] [v]:=by
 refine⟨rfl,?_⟩
 intro i y u hy hu
 cases i with
 |zero=>cases hy;cases hu;exact⟨h,h1⟩
 |succ i=>simp at hy
theorem repCs_app {l m:List AV} {c d:List Value} (h:RepCs w l c) (k:RepCs w m d):RepCs w (l++m) (c++d):=by
 refine⟨by simp[h.len,k.len],?_⟩
 intro i x v hx hv
 by_cases hi:i < l.length
 ·rw[List.getElem?_append_left hi] at hx
  rw[List.getElem?_append_left (by rw[←h.len];exact hi)] at hv
  exact h.rep i x v hx hv
 ·rw[List.getElem?_append_right (by omega)] at hx
  rw[List.getElem?_append_right (by rw[←h.len];omega),←h.len] at hv
  exact k.rep _ x v hx hv
theorem fields_rep {n:Nat} {cs:List Value} {size:Nat} (hlen:cs.length=size):∀(fs:List (Nat×TypeId)) (o:Nat),offsOK τ fs o size=true→o≤size→
  (∀p,p∈fs→∀fi,lookup τ p.2=some fi→∃l,RepCs w l ((cs.drop p.1).take fi.size)∧shape τ n p.2 l)→∃l,RepCs w l (cs.drop o)∧shapes (shape τ n) fs l
 |[],o,h,ho,_=>by
  simp only[offsOK,beq_iff_eq] at h
  refine⟨[],⟨by simp[hlen,h],by simp⟩,rfl⟩
 |(o',ft)::r,o,h,ho,hall=>by
  simp only[offsOK,Bool.and_eq_true,beq_iff_eq] at h
  obtain⟨h1,h2⟩:=h
  subst h1
  split at h2
  case h_2=>cases h2
  rename_i fi hfi
  obtain⟨a,ha,hsa⟩:=hall (o',ft) List.mem_cons_self fi hfi
  have hle:o'+fi.size≤size:=by
   clear hall ha hsa
   have key:∀(r:List (Nat×TypeId)) (o:Nat),offsOK τ r o size=true→o≤size:=by
    intro r
    induction r with
    |nil=>intro o h;simp only[offsOK,beq_iff_eq] at h;omega
    |cons p r ih=>
     intro o h
     obtain⟨po,pt⟩:=p
     simp only[offsOK,Bool.and_eq_true,beq_iff_eq] at h
     obtain⟨h3,h4⟩:=h
     split at h4
     ·have:=ih _ h4;omega
     ·cases h4
   exact key r _ h2
  obtain⟨b,hb,hsb⟩:=fields_rep hlen r (o'+fi.size) h2 hle (fun p hp=>hall p (List.mem_cons_of_mem _ hp))
  refine⟨a++b,?_,a,b,rfl,hsa,hsb⟩
  have e:cs.drop o'=(cs.drop o').take fi.size++cs.drop (o'+fi.size):=by
   rw[←List.drop_drop]
   exact (List.take_append_drop _ _).symm
  rw[e]
  exact repCs_app ha hb
theorem weightsAll_get {e:TypeId}:∀{l:List (DataW H)},(DataW.weightsAll P e l).all (·≤reachBytes)=true→∀{i:Nat} {d:DataW H},l[i]? =some d→(d.weights P e).all (·≤reachBytes)=true
 |[],_,i,_,hd=>by simp at hd
 |a::r,h,0,d,hd=>by
  cases hd
  simp only[DataW.weightsAll,List.all_append,Bool.and_eq_true] at h
  exact h.1
 |a::r,h,i+1,d,hd=>by
  simp only[DataW.weightsAll,List.all_append,Bool.and_eq_true] at h
  exact weightsAll_get h.2 hd
theorem weightsEach_get:∀{ts:List TypeId} {l:List (DataW H)},(DataW.weightsEach P ts l).all (·≤reachBytes)=true→∀{i:Nat} {t:TypeId} {d:DataW H},ts[i]? =some t→l[i]? =some d→(d.weights P t).all (·≤reachBytes)=true
 |[],_,_,i,_,_,ht,_=>by simp at ht
 |_::_,[],_,i,_,_,_,hd=>by simp at hd
 |t::ts,a::r,h,0,_,d,ht,hd=>by
  cases hd
  cases ht
  simp only[DataW.weightsEach,List.all_append,Bool.and_eq_true] at h
  exact h.1
 |t::ts,a::r,h,i+1,_,d,ht,hd=>by
  simp only[DataW.weightsEach,List.all_append,Bool.and_eq_true] at h
  exact weightsEach_get h.2 ht hd
theorem trod_rep (hτ:TabOK P τ):∀(n fuel:Nat) (t:TypeId) (cs:List Value) (x:DataW H×List MemPlace),plainT τ n t=true→DataW.trod enc P w base spare held fuel t cs=some x→(x.1.weights P t).all (·≤reachBytes)=true→
  ∃l,RepCs w l cs∧shape τ n t l
 |0,_,_,_,_,h,_,_=>by cases h
 |n+1,fuel,t,cs,x,hp,h,hwt=>by
  simp only[plainT] at hp
  split at hp
  case h_1=>cases hp
  rename_i i hi
  obtain⟨f,fd,z,HI⟩:=TI.spec hτ hi
  have hf:=HI.fits
  have hu:=HI.und
  have hfuel:∃m,fuel=m+1:=by
   cases fuel with
   |zero=>simp[DataW.trod] at h
   |succ m=>exact⟨m,rfl⟩
  obtain⟨m,rfl⟩:=hfuel
  have hsh:∀l,shape τ (n+1) t l=(match i.k with
   |.int k=>∃m,l=[.int k m]∧(Lit.int k m).wf=true
   |.bool=>∃b,l=[.bool b]
   |.str=>∃s,l=[.str s]∧s.length≤reachBytes
   |.slice e=>∃xs,l=[.sl (sizeT τ e) xs .none]∧xs.length≤reachBytes∧∀x,x∈xs→∃c,x=elA τ e c∧shape τ n e c
   |.struct fs=>shapes (shape τ n) fs l
   |_=>False):=fun l=>by simp only[shape,hi]
  split at hp
  ·rename_i k hk
   rw[hk] at hf
   cases fd<;>simp[TK.fits] at hf
   subst hf
   obtain⟨n0,hcs,_,hwf⟩:=DataW.trod_int hu h
   subst hcs
   refine⟨[.int k n0],repCs_one (.int _ _) rfl,?_⟩
   rw[hsh,hk]
   exact⟨n0,rfl,hwf⟩
  ·rename_i hk
   rw[hk] at hf
   cases fd<;>simp[TK.fits] at hf
   obtain⟨b0,hcs,_⟩:=DataW.trod_bool hu h
   subst hcs
   refine⟨[.bool b0],repCs_one (.bool _) rfl,?_⟩
   rw[hsh,hk]
   exact⟨b0,rfl⟩
  ·rename_i hk
   rw[hk] at hf
   cases fd<;>simp[TK.fits] at hf
   obtain⟨s0,hcs,hx0,_⟩:=DataW.trod_string hu h
   subst hcs
   rw[hx0] at hwt
   have hle:s0.data.toList.length≤reachBytes:=by simpa [DataW.weights] using hwt
   have hs:=Rep.str (μ:=mu0) (F:=fr0) (w:=w) s0.data.toList
   refine⟨[.str s0.data.toList],repCs_one (by simpa using hs) rfl,?_⟩
   rw[hsh,hk]
   exact⟨_,rfl,hle⟩
  ·rename_i e hk
   rw[hk] at hf
   cases fd<;>simp[TK.fits] at hf
   subst hf
   simp only[Bool.and_eq_true] at hp
   obtain⟨hpe,hp2⟩:=hp
   split at hp2
   case h_2=>cases hp2
   rename_i ei hei
   simp only[Bool.and_eq_true,decide_eq_true_eq] at hp2
   obtain⟨⟨hpos,hby⟩,hone⟩:=hp2
   obtain⟨fe,de,ze,HE⟩:=TI.spec hτ hei
   have hce:P.cellsOf e=ei.size:=HE.cellsOf
   have hsz:sizeT τ e=ei.size:=by simp[sizeT,hei]
   rcases DataW.trod_slice hu h with ⟨rfl,_⟩|⟨a,len,cap,elems,rest,m',hm',rfl,hx0,hb,hlc,hcm,hel,hall,_⟩
   ·refine⟨[.sl ei.size [] .none],repCs_one ?_ rfl,?_⟩
    ·exact Rep.sl _ [] .none none 0 ⟨0,0,none⟩ (fun _=>undef) (by simp) (by simp) (by simp) (by simp) (by simp) (by simp) trivial
    ·rw[hsh,hk]
     exact⟨[],by rw[hsz],by simp,by simp⟩
   ·rw[hx0] at hwt
    have hbe:P.bytesOf e=ei.bytes:=by simp[Program.bytesOf,HE.info,HE.bytes]
    simp only[DataW.weights,hu,List.all_cons,List.all_append,Bool.and_eq_true,decide_eq_true_eq,List.length_map] at hwt
    obtain⟨hw1,hw2,_⟩:=hwt
    rw[hbe,hel] at hw1
    have hlr:len≤reachBytes:=by
     have h1:(len+rest.length)*1≤(len+rest.length)*ei.bytes:=Nat.mul_le_mul_left _ hby
     omega
    have hget:∀i,i < len→∃cs' l,(w.cells? base (a.add (i*ei.size)) ei.size=some cs')∧RepCs w l cs'∧shape τ n e l:=by
     intro i hi'
     have h1:=hall i hi'
     rw[hce] at h1
     have h2:∃y,elems[i]? =some y:=⟨_,List.getElem?_eq_getElem (by omega)⟩
     obtain⟨y,hy⟩:=h2
     rw[hy] at h1
     obtain⟨cs',h3,h4⟩:=Option.bind_eq_some_iff.1 h1
     obtain⟨l,h5,h6⟩:=trod_rep hτ n _ e cs' y hpe h4 (weightsAll_get hw2 (i:=i) (by rw[List.getElem?_map,hy];rfl))
     exact⟨cs',l,h3,h5,h6⟩
    have hget':∀i:Nat,∃p:List Value×List AV,i < len→(w.cells? base (a.add (i*ei.size)) ei.size=some p.1)∧RepCs w p.2 p.1∧shape τ n e p.2:=by
     intro i
     by_cases hi':i < len
     ·obtain⟨cs',l,h1,h2,h3⟩:=hget i hi'
      exact⟨(cs',l),fun _=>⟨h1,h2,h3⟩⟩
     ·exact⟨([],[]),fun h=>absurd h hi'⟩
    obtain⟨CL,hCL0⟩:=Classical.axiomOfChoice hget'
    obtain⟨C,hC⟩:∃C:Nat→List Value,∀i,C i=(CL i).1:=⟨_,fun _=>rfl⟩
    obtain⟨L,hL0⟩:∃L:Nat→List AV,∀i,L i=(CL i).2:=⟨_,fun _=>rfl⟩
    have hCL:∀i,i < len→(w.cells? base (a.add (i*ei.size)) ei.size=some (C i))∧RepCs w (L i) (C i)∧shape τ n e (L i):=by
     intro i hi'
     rw[hC,hL0]
     exact hCL0 i hi'
    have hlenL:∀i,i < len→(L i).length=ei.size:=by
     intro i hi'
     obtain⟨h1,h2,_⟩:=hCL i hi'
     rw[h2.len]
     exact (World.cells?_some h1).2.1
    have hcells:∀i,i < len→(elA τ e (L i)).cells=L i:=by
     intro i hi'
     have h1:=hlenL i hi'
     simp only[elA,hei]
     by_cases hagg:ei.agg=true
     ·simp[hagg,AV.cells]
     ·have h1':ei.size=1:=by
       rcases Bool.or_eq_true _ _ ▸ hone with h|h
       ·exact absurd h hagg
       ·simpa using h
      rw[if_neg hagg]
      rw[h1'] at h1
      match hL:L i,h1 with
      |[y],_=>
       obtain⟨g1,g2,g3⟩:=hCL i hi'
       have hcl:(C i).length=1:=by rw[←g2.len,hL];rfl
       obtain⟨v,hv⟩:∃v,(C i)[0]? =some v:=⟨_,List.getElem?_eq_getElem (by omega)⟩
       have hr:=g2.rep 0 y v (by rw[hL];rfl) hv
       simp only[List.getD_cons_zero]
       cases y<;>first|rfl|skip
       obtain⟨c,rfl,_⟩:=hr.1.agg_inv
       simp[Value.oneCell'] at hr
    have hspot:0 < len→a.spot=none:=by
     intro h0
     obtain⟨h1,_⟩:=hCL 0 h0
     obtain⟨_,g2,g3⟩:=World.cells?_some h1
     have h4:=g3 0 hpos
     have h5:∃v,(C 0)[0]? =some v:=⟨_,List.getElem?_eq_getElem (by omega)⟩
     obtain⟨v,hv⟩:=h5
     rw[hv] at h4
     simpa [Addr.add] using World.cell?_spot h4
    refine⟨[.sl ei.size ((List.range len).map fun i=>elA τ e (L i)) .none],repCs_one ?_ rfl,?_⟩
    ·have hxs:∀(i:Nat) (x:AV),((List.range len).map fun i=>elA τ e (L i))[i]? =some x→i < len∧x=elA τ e (L i):=by
      intro i x hx
      simp only[List.getElem?_map,List.getElem?_range,Option.map_eq_some_iff] at hx
      by_cases hi':i < len
      ·simp[hi'] at hx
       exact⟨hi',hx.symm⟩
      ·simp[hi'] at hx
     have hl0:((List.range len).map fun i=>elA τ e (L i)).length=len:=by simp
     have hv:Value.slice (some a) len cap=Value.slice (some a) ((List.range len).map fun i=>elA τ e (L i)).length cap:=by rw[hl0]
     rw[hv]
     refine Rep.sl ei.size _ .none (some a) cap a (fun p=>(C (p/ei.size)).getD (p%ei.size) undef) ?_ (by rw[hl0];exact hlc) ?_ ?_ ?_ ?_ trivial
     ·intro x hx
      obtain⟨i,hi'⟩:=List.getElem?_of_mem hx
      obtain⟨h1,rfl⟩:=hxs i x hi'
      rw[hcells i h1]
      exact hlenL i h1
     ·intro h0
      rw[hl0] at h0
      exact⟨rfl,hspot h0⟩
     all_goals
      intro i x j c hx hc
      obtain⟨h1,rfl⟩:=hxs i x hx
      rw[hcells i h1] at hc
      obtain⟨g1,g2,g3⟩:=hCL i h1
      have hj:j < ei.size:=by rw[←hlenL i h1];exact (List.getElem?_eq_some_iff.1 hc).1
      have hd:(i*ei.size+j)/ei.size=i:=by
       rw[Nat.mul_comm,Nat.mul_add_div hpos,Nat.div_eq_of_lt hj,Nat.add_zero]
      have hmd:(i*ei.size+j)%ei.size=j:=by
       rw[Nat.mul_comm,Nat.mul_add_mod,Nat.mod_eq_of_lt hj]
      have hcl:j < (C i).length:=by rw[←g2.len,hlenL i h1];exact hj
      have hval:(C i).getD j undef=(C i)[j]:=by simp[List.getD,List.getElem?_eq_getElem hcl]
      have hr:=g2.rep j c _ hc (List.getElem?_eq_getElem hcl)
      simp only[hd,hmd,hval]
     ·exact hr.2
     ·refine⟨?_,free0 _ _⟩
      obtain⟨_,k2,k3⟩:=World.cells?_some g1
      have k4:=k3 j hj
      rw[List.getElem?_eq_getElem hcl] at k4
      rw[←k4]
      have hs:=hspot (by omega)
      obtain⟨ab,ao,ags⟩:=a
      simp only at hs
      subst hs
      congr 1
      rw[Addr.add_lit,Addr.add_lit]
      simp[Nat.add_assoc]
     ·exact hr.1
    ·rw[hsh,hk]
     refine⟨_,by rw[hsz],by simp;exact hlr,?_⟩
     intro x hx
     obtain⟨i,hi',rfl⟩:=List.mem_map.1 hx
     exact⟨L i,rfl,(hCL i (List.mem_range.1 hi')).2.2⟩
  ·rename_i fs hk
   rw[hk] at hf
   cases fd<;>simp[TK.fits] at hf
   rename_i gs
   simp only[Bool.and_eq_true] at hp
   obtain⟨hpf,hoffs⟩:=hp
   obtain⟨xs,n',_,hx0,hcl,hxl,hget⟩:=DataW.trod_struct hu h
   rw[hx0] at hwt
   simp only[DataW.weights,hu] at hwt
   have hci:P.cellsOf t=i.size:=HI.cellsOf
   rw[hci] at hcl
   obtain⟨l,h1,h2⟩:=fields_rep (n:=n) hcl fs 0 hoffs (Nat.zero_le _) (by
    intro p hpm fi hfi
    have hp1:plainT τ n p.2=true:=List.all_eq_true.1 hpf p hpm
    rw[←hf] at hpm
    obtain⟨g,hg,rfl⟩:=List.mem_map.1 hpm
    obtain⟨j,hj⟩:=List.getElem?_of_mem hg
    have hgj:gs[j]? =some g:=by simpa using hj
    have h3:=hget j g hgj
    have hj2:j < xs.length:=by rw[hxl];exact (Array.getElem?_eq_some_iff.1 hgj).1
    rw[List.getElem?_eq_getElem hj2] at h3
    obtain⟨ff,fd',fz,HF⟩:=TI.spec hτ hfi
    rw[HF.cellsOf] at h3
    exact trod_rep hτ n _ _ _ _ hp1 h3 (weightsEach_get hwt (i:=j) (by rw[List.getElem?_map,hj];rfl) (by rw[List.getElem?_map,List.getElem?_eq_getElem hj2];rfl)))
   refine⟨l,by simpa using h1,?_⟩
   rw[hsh,hk]
   exact h2
  ·cases hp
end
end Go.Ab
namespace Go.Ab
open Go.RowKit Go.ChangeShapes
section
variable {H:Type} {enc:TypeId×Value→H} {P:Program}
theorem arg_one {τ:Tab} (hτ:TabOK P τ) {n:Nat} {t:TypeId} (hp:plainT τ n t=true) {w:World} {base:Nat} {spare:Nat→Bool} {held:Bool} {v:Value} {d:DataW H} {p:List MemPlace} (h:DataW.Trod enc P w base spare held t v d p)
  (hw:(d.weights P t).all (·≤reachBytes)=true) (hv:v.cells.toList=[v]):∃x,Rep mu0 fr0 w x v∧shape τ n t [x]:=by
 obtain⟨fuel,hf⟩:=h
 rw[hv] at hf
 obtain⟨l,h1,h2⟩:=trod_rep hτ n fuel t [v] _ hp hf hw
 have hl:=h1.len
 match l,hl with
 |[x],_=>exact⟨x,(h1.rep 0 x v rfl rfl).1,h2⟩
theorem trodAll_stays (hl:laidOutB P=true) {W W':World} (hb:Below W.heap.size W W') {sp:Nat→Bool}:∀{ts:List TypeId} {vs:List Value} {ds:List (DataW H)} {ps:List MemPlace},(∀t∈ts,P.readableRec t=true∧t < P.types.size)→
  DataW.TrodAll enc P W 0 (fun _=>true) true ts vs ds ps→(∀p∈ps,p.block < W.heap.size)→(∀p∈ps,sp p.block=true)→DataW.TrodAll enc P W' 0 sp true ts vs ds ps
 |[],[],[],_,_,h,_,_=>h
 |t::ts,v::vs,d::ds,_,hts,⟨p,q,h1,h2,e⟩,hlt,hs=>by
  subst e
  refine⟨p,q,?_,trodAll_stays hl hb (fun t ht=>hts t (List.mem_cons_of_mem _ ht)) h2 (fun x hx=>hlt x (List.mem_append_right _ hx)) (fun x hx=>hs x (List.mem_append_right _ hx)),rfl⟩
  exact WideElems.Trod_stays hl (hts t List.mem_cons_self).1 (hts t List.mem_cons_self).2 h1 (fun x hx=>hb.same (hlt x (List.mem_append_left _ hx))) (fun x hx=>hs x (List.mem_append_left _ hx))
 |[],_::_,_,_,_,h,_,_=>h.elim
 |[],[],_::_,_,_,h,_,_=>h.elim
 |_::_,[],_,_,_,h,_,_=>h.elim
 |_::_,_::_,[],_,_,h,_,_=>h.elim
theorem law_post (hl:laidOutB P=true) {f:Func} {s:ChangeSpec} (hv:s.vars=[]) {tb:TypeId} (htb:P.underlying tb=some .bool) (hrt:f.resultTypes=#[tb]) (hts:∀t∈f.params.toList,P.readableRec t=true∧t < P.types.size)
  {W W':World} {args:Array Value} {ds gs:List (DataW H)} {before:List MemPlace} (hW:DataW.Whole enc P f.params.toList s.vars false W args.toList ds gs before) (hb:Below W.heap.size W W')
  (hres:(s.fn H (ds++gs)).results=[.lit (.bool true)]) (hargs:(s.fn H (ds++gs)).args=ds) (hvars:(s.fn H (ds++gs)).vars=[]):s.post enc P f false true false false W args (.bool true) W':=by
 have hlt:=hW.lt
 obtain⟨p,q,hA,hV,hps,_,_⟩:=id hW
 rw[hv] at hV
 obtain⟨hgs,hq⟩:=trodVars_none hV
 refine⟨ds,gs,before,[],p,[],hW,?_,?_,?_,hb.frame _,fun h=>by cases h⟩
 ·rw[hres,hrt]
  exact trodAll_mk1 (shut_bool htb true)
 ·rw[hargs]
  refine trodAll_stays hl hb hts hA ?_ ?_
  ·intro x hx
   exact hlt x (by rw[hps];exact List.mem_append_left _ hx)
  ·intro x hx
   simpa using hlt x (by rw[hps];exact List.mem_append_left _ hx)
 ·rw[hvars,hv]
  rfl
theorem law_calls {g:FuncId} {args:List AV} (h:APure P g args (.bool true)) {w:World} {vs:Array Value} (hv:RepL mu0 fr0 w args vs):Calls P g vs w fun e w'=>e=.returned (.bool true)∧Below w.heap.size w w':=by
 have hno:∀b o,¬Own mu0 b o:=by rintro b o ⟨id,h|⟨e,g,h,_⟩⟩<;>cases h
 have hg:Gam mu0 fr0 ⟨0,[]⟩ w:=by
  refine {dom:=fun id=>(by simp[mu0]),obj:=fun id l hM=>(by cases hM),spare:=fun id g hM=>(by cases hM),raw:=fun id g o vs t hM=>(by cases hM),inj:=?_,frm:=fun b o ho=>absurd ho (hno b o),fit:=⟨fun b o ho=>absurd ho (hno b o),fun b o h=>h.elim⟩}
  rintro i j b (h|⟨_,_,h⟩) _<;>cases h
 refine ((h ⟨0,[]⟩).2 mu0 fr0 w vs hg hv).mono ?_
 rintro e w' ⟨μ',M',h1,h2,h3⟩
 have hb:Below w.heap.size w w':=⟨h1.os,h1.tape,h1.output,h1.size,fun k hk=>h1.same k hk (hno k)⟩
 cases e with
 |returned v=>
  obtain⟨x,h4,h5⟩:=h3
  obtain⟨e,_⟩:=h5
  cases e
  cases h4
  exact⟨rfl,hb⟩
 |panicked ch=>
  obtain⟨x,v,_,_,e,_⟩:=h3
  cases e
 |outgrown=>exact h3.elim
end
end Go.Ab
namespace Go.Proofs.YtbcaejhhgkcgpaaGreatDoor
open Go.Ab Go.RowKit Go.ChangeShapes Go.WideShapes Go.ChangeAt
theorem Tryz.own:ownKnob Tryz.prog.godebug=none:=by kernel_rfl
theorem Tryz.laidOut:laidOutB Tryz.prog=true:=by kernel_rfl
set_option maxRecDepth 100000 in
theorem one_str {t:TypeId} {W:World} {base:Nat} {v:Value} (ht:Tryz.prog.underlying t=some .string) (h:Value.okWide Tryz.prog W .any base t v):v.cells.toList=[v]:=by
 obtain⟨s,rfl⟩:=okWide_string ht h
 rfl
set_option maxRecDepth 100000 in
theorem one_slice {e t:TypeId} {W:World} {base:Nat} {v:Value} (ht:Tryz.prog.underlying t=some (.slice e)) (h:Value.okWide Tryz.prog W .any base t v):v.cells.toList=[v]:=by
 obtain⟨a,l,c,rfl⟩:=okWide_slice ht h
 rfl
theorem str_of {n:Nat} {t:TypeId} {x:AV} (h:Go.Ab.shape tab n t [x]) (hk:(lookup tab t).map (·.k)=some .str):∃s:Bytes,x=.str s∧s.length≤reachBytes:=by
 cases n with
 |zero=>exact h.elim
 |succ n=>
  simp only[Go.Ab.shape] at h
  cases hl:lookup tab t with
  |none=>rw[hl] at h;exact h.elim
  |some i=>
   rw[hl] at h hk
   simp only[Option.map_some,Option.some.injEq] at hk
   simp only[hk] at h
   obtain⟨s,hs,hb⟩:=h
   cases hs
   exact⟨s,rfl,hb⟩
end Go.Proofs.YtbcaejhhgkcgpaaGreatDoor
namespace Go.Ab
open Go.RowKit
section
variable {P:Program} {τ:Tab} {ops:Array Oper} {cls:Nat→Cls} {Q:AX→AF→Mem→Prop} {ds:List ADef} {ls:List Nat} {i:Nat} {o:Oper} {t:List (Nat×AV)} {M:Mem}
theorem DW_oixM (hτ:TabOK P τ) {d:Nat} (hi:ops[i]? =some o) (hw:wantedA ops ⟨t,ds⟩ o=some true) (hd:o.dst=some d) (hc:notP (cls i)=true) {ty e:TypeId} {X I:Operand} (ho:o.op=.indexAddr ty X I) {id off n cap sz:Nat} {l:List AV} {k:IntKind} {j:Int}
  (hX:AF.ev ⟨t,ds⟩ X=.osl id off n cap sz) (hI:AF.ev ⟨t,ds⟩ I=.int k j) {ti ei:TI} (ht:lookup τ ty=some ti) (hk:ti.k=.slice e) (he:lookup τ e=some ei) (hsz:sz=ei.size) (hM:M.get id=some (.cells l)) (h0:0≤j) (hj:j < n)
  (h:DW P ops cls Q ds ls ((d,.ptr id (off+j.toNat*sz))::t) M):DW P ops cls Q ds (i::ls) t M:=
 DW_ofR hi hw hd hc (by rw[ho];exact opR_oindex hτ ht hk he hX hM hI h0 hj hsz) h
theorem DW_ldX (hτ:TabOK P τ) {d:Nat} (hi:ops[i]? =some o) (hw:wantedA ops ⟨t,ds⟩ o=some true) (hd:o.dst=some d) (hc:notP (cls i)=true) {ty:TypeId} {x:Operand} (ho:o.op=.load ty x) {id off:Nat} {l:List AV} {y:AV}
  (hx:AF.ev ⟨t,ds⟩ x=.ptr id off) {ti:TI} (ht:lookup τ ty=some ti) (ha:ti.agg=false) (hM:M.get id=some (.cells l)) (hl:l[off]? =some y) (h:DW P ops cls Q ds ls ((d,y)::t) M):DW P ops cls Q ds (i::ls) t M:=
 DW_ofR hi hw hd hc (by
  rw[ho]
  refine opR_load hτ ?_
  rw[hx]
  unfold aloadM
  simp only[hM,ht,ha]
  simpa using hl) h
theorem DW_stX (hτ:TabOK P τ) (hi:ops[i]? =some o) (hw:wantedA ops ⟨t,ds⟩ o=some true) (hd:o.dst=none) (hc:isE (cls i)=true) {ty:TypeId} {x y:Operand} (ho:o.op=.store ty x y) {id off:Nat} {l:List AV} {z:AV}
  (hx:AF.ev ⟨t,ds⟩ x=.ptr id off) (hy:AF.ev ⟨t,ds⟩ y=z) {ti:TI} (ht:lookup τ ty=some ti) (hs:ti.size=1) (hz:z.solid=true) (hzc:z.cells=[z]) (hM:M.get id=some (.cells l)) (hl:off < l.length)
  (h:DW P ops cls Q ds ls t (M.set id (.cells (writeAt l off [z])))):DW P ops cls Q ds (i::ls) t M:=by
 subst hy
 refine DW_ofE0 hi hw hd hc (x:=.top) (by rw[ho];exact opE_store hτ ht hx hM hz (by rw[hzc,hs];rfl) (by omega)) ?_
 rw[hzc]
 exact h
end
theorem writeAt_ne:∀(l:List AV) (n j:Nat) (z:AV),j≠n→(writeAt l n [z])[j]? =l[j]?
 |[],0,j,z,_=>rfl
 |[],n+1,j,z,_=>rfl
 |a::l,0,j,z,h=>by
  cases j with
  |zero=>exact absurd rfl h
  |succ j=>
   have:writeAt (a::l) 0 [z]=z::l:=by cases l<;>rfl
   rw[this]
   rfl
 |a::l,n+1,j,z,h=>by
  cases j with
  |zero=>rfl
  |succ j=>
   simp only[writeAt,List.getElem?_cons_succ]
   exact writeAt_ne l n j z (by omega)
end Go.Ab
namespace Go.Proofs.YtbcaejhhgkcgpaaGreatDoor
open Go.Ab
def OY (k:Nat) (N:Mem) (y:AV):Prop:=(∃sz t,y=.sl sz [] t)∨∃(yd yn yc:Nat) (ys:List AV),y=.osl yd 0 yn yc 1∧0 < yd∧yd < k∧N.get yd=some (.cells ys)∧ys.length=yc∧yn≤yc∧yn < 1000000
structure GO (k id cap n:Nat) (Y:Nat→AV) (N:Mem):Prop where
 ki:k≤id
 nc:n≤cap
 row:∃cells,N.get id=some (.cells cells)∧cells.length=cap*5∧∀j,j < n→cells[j*5+4]? =some (Y j)
 own:∀j,j < n→OY k N (Y j)
theorem OY.set {k yd:Nat} {N:Mem} {y:AV} {ys zs:List AV} (h:OY k N y) (hyd:N.get yd=some (.cells ys)) (hz:zs.length=ys.length):OY k (N.set yd (.cells zs)) y:=by
 rcases h with h|⟨a,b,c,d,h1,h2,h3,h4,h5,h6,h7⟩
 ·exact .inl h
 ·by_cases e:a=yd
  ·subst e
   rw[h4] at hyd
   cases hyd
   exact .inr ⟨a,b,c,zs,h1,h2,h3,by rw[Mem.get_set,if_pos rfl],by omega,h6,h7⟩
  ·exact .inr ⟨a,b,c,d,h1,h2,h3,by rw[Mem.get_set,if_neg e];exact h4,h5,h6,h7⟩
theorem OY.row {k id:Nat} {N:Mem} {y:AV} {o:AObj} (h:OY k N y) (hk:k≤id):OY k (N.set id o) y:=by
 rcases h with h|⟨a,b,c,d,h1,h2,h3,h4,h5⟩
 ·exact .inl h
 ·exact .inr ⟨a,b,c,d,h1,h2,h3,by rw[Mem.get_set,if_neg (by omega)];exact h4,h5⟩
theorem GO.chunk {k id cap n yd:Nat} {Y:Nat→AV} {N:Mem} {ys zs:List AV} (h:GO k id cap n Y N) (hlt:yd < k) (hyd:N.get yd=some (.cells ys)) (hz:zs.length=ys.length):GO k id cap n Y (N.set yd (.cells zs)):=by
 obtain⟨cells,c1,c2,c3⟩:=h.row
 have:=h.ki
 exact⟨h.ki,h.nc,⟨cells,by rw[Mem.get_set,if_neg (by omega)];exact c1,c2,c3⟩,fun j hj=>(h.own j hj).set hyd hz⟩
theorem GO.path {k id cap n j:Nat} {Y:Nat→AV} {N:Mem} {cells:List AV} {z:AV} (h:GO k id cap n Y N) (c1:N.get id=some (.cells cells)):GO k id cap n Y (N.set id (.cells (writeAt cells (j*5) [z]))):=by
 obtain⟨cells',d1,c2,c3⟩:=h.row
 rw[c1] at d1
 cases d1
 exact⟨h.ki,h.nc,⟨_,by rw[Mem.get_set,if_pos rfl],by rw[writeAt_length];exact c2,fun i hi=>by rw[writeAt_ne _ _ _ _ (by omega)];exact c3 i hi⟩,fun i hi=>(h.own i hi).row h.ki⟩
def yOf (xs:List AV) (j:Nat):AV:=((xs[j]?).map fun x=>(x.cells[4]?).getD .top).getD .top
theorem go_of {k id cap:Nat} {N:Mem} {cells xs:List AV} {m:List Ch} (hk:k≤id) (hM:N.get id=some (.cells cells)) (hx:cells.take (xs.length*5)=flat xs) (hc:xs.length≤cap) (hl:cells.length=cap*5) (h:All2 (ChOwn k N) xs m) (hs:∀c,c∈m→shortCh c):
  GO k id cap xs.length (yOf xs) N:=by
 have h5:∀x,x∈xs→x.cells.length=5:=fun x hx=>by
  obtain⟨_,_,h2⟩:=all2_mem h hx
  obtain⟨cs,rfl,h3⟩:=chown_five h2
  exact h3
 have key:∀j,j < xs.length→∃y,xs[j]? =some y∧∃c,c∈m∧ChOwn k N y c:=fun j hj=>by
  have h1:xs[j]? =some xs[j]:=List.getElem?_eq_getElem hj
  exact⟨_,h1,all2_mem h (List.mem_of_getElem? h1)⟩
 refine⟨hk,hc,⟨cells,hM,hl,fun j hj=>?_⟩,fun j hj=>?_⟩
 ·obtain⟨y,h1,c,_,y',rfl,_⟩:=key j hj
  have h3:=flat_get h5 h1 (j:=4) (c:=y') rfl
  rw[←hx,List.getElem?_take] at h3
  split at h3
  ·rw[h3]
   unfold yOf
   rw[h1]
   rfl
  ·cases h3
 ·obtain⟨y,h1,c,hcm,y',rfl,hy⟩:=key j hj
  have hsc:=(hs c hcm).2
  unfold yOf
  rw[h1]
  rcases hy with ⟨_,sz,t,rfl⟩|⟨a,b,d,rfl,h2,h3,h4,h5,h6,h7⟩
  ·exact .inl ⟨sz,t,rfl⟩
  ·exact .inr ⟨a,_,b,d,rfl,h2,h3,h4,h7,h6,hsc⟩
def bdF (l:List Ch) (id cap n j:Nat) (b:Bool):AF:=⟨[(0,chA l .none),(5,chA l .none),(6,.osl id 0 n cap 5),(18,.bool b),(19,.int .i64 (j:Int))],[]⟩
def bdF2 (l:List Ch) (id cap n j i:Nat) (b:Bool):AF:=⟨[(0,chA l .none),(5,chA l .none),(6,.osl id 0 n cap 5),(18,.bool b),(19,.int .i64 (j:Int)),(20,.int .i64 (i:Int))],[]⟩
theorem off4 (j:Nat):0+Int.toNat (j:Int)*5+2+2=j*5+4:=by rw[Int.toNat_natCast];omega
theorem off0 (j:Nat):0+Int.toNat (j:Int)*5+0=j*5:=by rw[Int.toNat_natCast];omega
set_option maxRecDepth 100000 in
set_option maxHeartbeats 8000000 in
theorem bDoes_ok (l m:List Ch) (hl:l.length < 4611686018427387904) (hm:m.length < 4611686018427387904):APure Tryz.prog 4 [chA l .none,chA m .none] (.bool true):=by
 refine pure_sub (closed2 (closed_chs l (.inl rfl)) (closed_chs m (.inl rfl))) (closed_bool) ?_
 refine acalls_of tabOK Tryz.func4 rfl (by decide) (by simp[Tryz.f4]) ?_
 have b1:=bigC_ok l .none hl
 have b2:=bigC_ok m .none hm
 cases h1:bigC l
 ·rw[h1] at b1
  cases h2:bigC m
  ·rw[h2] at b2
   obtain⟨l1,l2⟩:=bigC_no h1
   obtain⟨m1,m2⟩:=bigC_no h2
   have sl:∀c,c∈l→shortCh c:=fun c hc=>by have:=l2 c hc;exact⟨by omega,by omega⟩
   have sm:∀c,c∈m→shortCh c:=fun c hc=>by have:=m2 c hc;exact⟨by omega,by omega⟩
   have sa:∀c,c∈l++m→shortCh c:=fun c hc=>by
    rcases List.mem_append.1 hc with h|h
    ·exact sl c h
    ·exact sm c h
   have ko:=ownC_ok l .none (.inl rfl) (by omega) sl
   have kn:=rNorm_ok l .none (.inl rfl) (by omega) sl
   have kp:=bPut_ok l .none (.inl rfl) (by omega) sl
   have kq:=rPutC_ok l .none (.inl rfl) (by omega) sl
   have kj:=bJoin_ok l m (by omega) (by omega) sa
   have kk:=rJoin_ok l m .none .none (.inl rfl) (.inl rfl) (by omega) (by omega) sa
   have ki:=bIs_ok l .none (by omega) sl
   have kr:=rBatch_ok l .none (by omega) sl
   have kl:=bLaid_ok
   have sj:=normSame_ok (l++m) (by rw[List.length_append];omega) sa
   have ss:=chSame_ok l l .none .none (by omega) (by omega) (fun c hc=>(sl c hc).2) (fun c hc=>(sl c hc).2)
   rw[decide_eq_true rfl] at ss
   generalize normC (l++m)=zj at*
   generalize putC l=zp at*
   generalize batchB l=zb at*
   obtain⟨zj,ej⟩:=zj
   obtain⟨zp,ep⟩:=zp
   have c1:decide (ej=ej)=true:=decide_eq_true rfl
   have c2:decide (ep=ep)=true:=decide_eq_true rfl
   have c3:(zp==zp)=true:=by simp
   have c4:(zb==zb)=true:=by simp
   have hN:=bNorm0_ok l .none (by omega) sl
   unfold nmA at kn kj kk
   unfold pcA at kp kq
   dsimp only at kj kk kp kq sj
   unfold chA at b1 b2 ko kn kp kq kj kk ki kr sj ss hN ⊢
   repeat' (first|refine DW_A tabs rfl ?_|refine DW_nil ?_|refine W_A rfl ?_|refine DW_C rfl b1 ?_|refine DW_C rfl b2 ?_|refine DW_C rfl ko ?_)
   refine DW_CM rfl rfl hN ?_ (fun u M' h=>by rcases h with ⟨_,h⟩|⟨_,_,_,_,_,_,h,_⟩<;>cases h)
   rintro u N hR
   rcases hR with ⟨e1,h⟩|⟨id,cap,k,cells,xs,e1,h,r1,r2,r3,r4,r5,r6,r7,r8⟩
   ·cases h
    rw[e1] at kn
    dsimp only at kn
    have sn:=(chSame_ok [] [] .none .none (by decide) (by decide) (fun c hc=>by cases hc) (fun c hc=>by cases hc)).sub (args:=[.sl 0 [] .full,.sl 5 ([].map Ch.av) .none]) ⟨Sub.nil,Sub.refl,trivial⟩
    rw[decide_eq_true rfl] at sn
    repeat' (first|refine DW_VB tabs rfl (by first|exact c1|exact c2|exact c3|exact c4) ?_|refine DW_A tabs rfl ?_|refine DW_nil ?_|refine W_A rfl ?_|refine DW_C rfl kn ?_|refine DW_C rfl kp ?_|refine DW_C rfl kq ?_|refine DW_C rfl kj ?_|refine DW_C rfl kk ?_|refine DW_C rfl sn ?_|refine DW_C rfl sj ?_|refine DW_C rfl ki ?_|refine DW_C rfl kr ?_)
    refine W_count 0 (fun j f N'=>f=⟨[(0,chA l .none),(5,chA l .none),(6,.sl 0 [] .full),(18,.bool true),(19,.int .i64 0)],[]⟩) (Nat.zero_le _) rfl (Joint.le ?_ (Mem.le_refl _)) ?_
    ·unfold chA
     repeat (refine AF.le_cons rfl ?_)
     exact AF.le_nil rfl
    rintro j f N' hj rfl
    unfold chA
    repeat' (first|refine DW_A tabs rfl ?_|refine DW_nil ?_|refine W_A rfl ?_|refine DW_C rfl kl ?_|refine DW_C rfl ss ?_)
    exact⟨rfl,_,rfl,_,rfl,SubC.of_closed closed_bool⟩
   ·cases h
    rw[e1] at kn
    dsimp only at kn
    have hsS:∀c,c∈sortC l→shortCh c:=fun c hc=>sl c (sortC_mem hc)
    have hlS:=sortC_len l
    have hxl:=r8.len
    have hG:=go_of r2 r4 r5 r6 r7 r8 hsS
    have kview:=out_view r4 r5 r6 r7 r8
    have sn:=(chSame_ok (sortC l) (sortC l) .none .none (by omega) (by omega) (fun c hc=>(hsS c hc).2) (fun c hc=>(hsS c hc).2)).borrow scal_bool (M:=N) (args:=[.osl id 0 xs.length cap 5,.sl 5 ((sortC l).map Ch.av) .none]) rfl (by
     intro i x y hx hy
     match i,hx,hy with
     |0,hx,hy=>
      cases hx
      cases hy
      exact kview
     |1,hx,hy=>
      cases hx
      cases hy
      exact View.closed (closed_chs _ (.inl rfl))
     |i+2,hx,hy=>simp at hx)
    rw[decide_eq_true rfl] at sn
    have c0:decide ((0:Int)=0)=true:=rfl
    repeat' (first|refine DW_VB tabs rfl (by first|exact c0|exact c1|exact c2|exact c3|exact c4) ?_|refine DW_A tabs rfl ?_|refine DW_nil ?_|refine W_A rfl ?_|refine DW_C rfl kn ?_|refine DW_C rfl kp ?_|refine DW_C rfl kq ?_|refine DW_C rfl kj ?_|refine DW_C rfl kk ?_|refine DW_CM rfl rfl (sn) ?_ ?_|refine DW_C rfl sj ?_|refine DW_C rfl ki ?_|refine DW_C rfl kr ?_)
    rotate_left
    ·intro u M' h
     cases h.1
    rintro u M' ⟨e,rfl⟩
    cases e
    repeat' (first|refine DW_VB tabs rfl (by first|exact c0|exact c1|exact c2|exact c3|exact c4) ?_|refine DW_A tabs rfl ?_|refine DW_nil ?_|refine W_A rfl ?_|refine DW_C rfl kn ?_|refine DW_C rfl kp ?_|refine DW_C rfl kq ?_|refine DW_C rfl kj ?_|refine DW_C rfl kk ?_|refine DW_C rfl sj ?_|refine DW_C rfl ki ?_|refine DW_C rfl kr ?_)
    clear kview sn r4 r5 r7 r8
    generalize yOf xs=Y at hG
    generalize xs.length=n at*
    refine W_count n (fun j f N'=>GO k id cap n Y N'∧f=bdF l id cap n j true) (Nat.zero_le _) ⟨hG,rfl⟩ (Joint.le ?_ (Mem.le_refl _)) ?_
    ·unfold bdF chA
     repeat (refine AF.le_cons rfl ?_)
     exact AF.le_nil rfl
    clear hG
    rintro j f N' hj ⟨hG,rfl⟩
    unfold bdF chA
    obtain⟨cells,c5,c6,c7⟩:=hG.row
    by_cases g1:j < n
    ·have d1:decide ((j:Int) < (n:Int))=true:=decide_eq_true (by omega)
     have fj:=wrap_succ (i:=j) (by omega)
     repeat' (first|refine DW_A tabs rfl ?_|refine DW_nil ?_|refine W_A rfl ?_)
     refine DW_olen tabOK rfl rfl rfl rfl rfl rfl c5 rfl rfl ?_
     repeat' (first|refine DW_VB tabs rfl d1 ?_|refine DW_A tabs rfl ?_|refine DW_nil ?_|refine W_A rfl ?_)
     have hcj:=c7 j g1
     have hoy:=hG.own j g1
     rcases hoy with ⟨sz,t0,hY⟩|⟨yd,yn,yc,ys,hY,y1,y2,y3,y4,y5,y6⟩
     ·refine W_count 0 (fun i f N2=>N2=N'∧f=bdF2 l id cap n j 0 true) (Nat.zero_le _) ⟨rfl,rfl⟩ (Joint.le ?_ (Mem.le_refl _)) ?_
      ·unfold bdF2 chA
       repeat (refine AF.le_cons rfl ?_)
       exact AF.le_nil rfl
      rintro i f N2 hi ⟨rfl,rfl⟩
      unfold bdF2 chA
      rw[hY] at hcj
      repeat' (first|refine DW_A tabs rfl ?_|refine DW_nil ?_|refine W_A rfl ?_)
      refine DW_oixM tabOK rfl rfl rfl rfl rfl rfl rfl rfl rfl rfl rfl c5 (by omega) (by omega) ?_
      refine DW_fdM tabOK c5 rfl ?_
      refine DW_fdM tabOK c5 rfl ?_
      refine DW_ldX tabOK rfl rfl rfl rfl rfl rfl rfl rfl c5 (by rw[off4];exact hcj) ?_
      repeat' (first|refine DW_A tabs rfl ?_|refine DW_nil ?_|refine W_A rfl ?_)
      refine DW_oixM tabOK rfl rfl rfl rfl rfl rfl rfl rfl rfl rfl rfl c5 (by omega) (by omega) ?_
      refine DW_fdM tabOK c5 rfl ?_
      refine DW_stX (z:=.str [115,109,117,100,103,101]) tabOK rfl rfl rfl rfl rfl rfl rfl rfl rfl rfl rfl c5 (by rw[off0];omega) ?_
      repeat' (first|refine DW_VI tabs rfl fj ?_|refine DW_A tabs rfl ?_|refine DW_nil ?_|refine W_A rfl ?_)
      refine⟨g1,_,_,⟨by rw[off0];exact hG.path c5,rfl⟩,Joint.le ?_ (Mem.le_refl _)⟩
      skip
      repeat (refine AF.le_cons rfl ?_)
      exact AF.le_nil rfl
     ·refine W_count yn (fun i f N2=>(GO k id cap n Y N2∧∃zs,N2.get yd=some (.cells zs)∧zs.length=yc)∧f=bdF2 l id cap n j i true) (Nat.zero_le _) ⟨⟨hG,ys,y3,y4⟩,rfl⟩ (Joint.le ?_ (Mem.le_refl _)) ?_
      ·unfold bdF2 chA
       repeat (refine AF.le_cons rfl ?_)
       exact AF.le_nil rfl
      rintro i f N2 hi ⟨⟨hG2,zs,z1,z2⟩,rfl⟩
      unfold bdF2 chA
      obtain⟨cells2,e5,e6,e7⟩:=hG2.row
      have ecj:=e7 j g1
      rw[hY] at ecj
      repeat' (first|refine DW_A tabs rfl ?_|refine DW_nil ?_|refine W_A rfl ?_)
      refine DW_oixM tabOK rfl rfl rfl rfl rfl rfl rfl rfl rfl rfl rfl e5 (by omega) (by omega) ?_
      refine DW_fdM tabOK e5 rfl ?_
      refine DW_fdM tabOK e5 rfl ?_
      refine DW_ldX tabOK rfl rfl rfl rfl rfl rfl rfl rfl e5 (by rw[off4];exact ecj) ?_
      refine DW_olen tabOK rfl rfl rfl rfl rfl rfl z1 rfl rfl ?_
      by_cases g2:i < yn
      ·have d2:decide ((i:Int) < (yn:Int))=true:=decide_eq_true (by omega)
       have fi:=wrap_succ (i:=i) (by omega)
       repeat' (first|refine DW_VB tabs rfl d2 ?_|refine DW_A tabs rfl ?_|refine DW_nil ?_|refine W_A rfl ?_)
       refine DW_oixM tabOK rfl rfl rfl rfl rfl rfl rfl rfl rfl rfl rfl e5 (by omega) (by omega) ?_
       refine DW_fdM tabOK e5 rfl ?_
       refine DW_fdM tabOK e5 rfl ?_
       refine DW_ldX tabOK rfl rfl rfl rfl rfl rfl rfl rfl e5 (by rw[off4];exact ecj) ?_
       repeat' (first|refine DW_A tabs rfl ?_|refine DW_nil ?_|refine W_A rfl ?_)
       refine DW_oixM tabOK rfl rfl rfl rfl rfl rfl rfl rfl rfl rfl rfl z1 (by omega) (by omega) ?_
       refine DW_stX (z:=.int .i64 (-7)) tabOK rfl rfl rfl rfl rfl rfl rfl rfl rfl rfl rfl z1 (by rw[Int.toNat_natCast];omega) ?_
       repeat' (first|refine DW_VI tabs rfl fi ?_|refine DW_A tabs rfl ?_|refine DW_nil ?_|refine W_A rfl ?_)
       refine⟨g2,_,_,⟨⟨hG2.chunk y2 z1 (writeAt_length _ _ _),_,(by rw[Mem.get_set,if_pos rfl]),(by rw[writeAt_length];exact z2)⟩,rfl⟩,Joint.le ?_ (Mem.le_refl _)⟩
       skip
       repeat (refine AF.le_cons rfl ?_)
       exact AF.le_nil rfl
      ·have d2:decide ((i:Int) < (yn:Int))=false:=decide_eq_false (by omega)
       repeat' (first|refine DW_VB tabs rfl d2 ?_|refine DW_A tabs rfl ?_|refine DW_nil ?_|refine W_A rfl ?_)
       refine DW_oixM tabOK rfl rfl rfl rfl rfl rfl rfl rfl rfl rfl rfl e5 (by omega) (by omega) ?_
       refine DW_fdM tabOK e5 rfl ?_
       refine DW_stX (z:=.str [115,109,117,100,103,101]) tabOK rfl rfl rfl rfl rfl rfl rfl rfl rfl rfl rfl e5 (by rw[off0];omega) ?_
       repeat' (first|refine DW_VI tabs rfl fj ?_|refine DW_A tabs rfl ?_|refine DW_nil ?_|refine W_A rfl ?_)
       refine⟨g1,_,_,⟨by rw[off0];exact hG2.path e5,rfl⟩,Joint.le ?_ (Mem.le_refl _)⟩
       skip
       repeat (refine AF.le_cons rfl ?_)
       exact AF.le_nil rfl
    ·have d1:decide ((j:Int) < (n:Int))=false:=decide_eq_false (by omega)
     repeat' (first|refine DW_A tabs rfl ?_|refine DW_nil ?_|refine W_A rfl ?_)
     refine DW_olen tabOK rfl rfl rfl rfl rfl rfl c5 rfl rfl ?_
     repeat' (first|refine DW_VB tabs rfl d1 ?_|refine DW_A tabs rfl ?_|refine DW_nil ?_|refine W_A rfl ?_|refine DW_C rfl kl ?_|refine DW_C rfl ss ?_)
     exact⟨rfl,_,rfl,_,rfl,SubC.of_closed closed_bool⟩
  ·rw[h2] at b2
   unfold chA at b1 b2 ⊢
   repeat' (first|refine DW_A tabs rfl ?_|refine DW_nil ?_|refine W_A rfl ?_|refine DW_C rfl b1 ?_|refine DW_C rfl b2 ?_)
   exact⟨rfl,_,rfl,_,rfl,SubC.of_closed closed_bool⟩
 ·rw[h1] at b1
  unfold chA at b1 b2 ⊢
  repeat' (first|refine DW_A tabs rfl ?_|refine DW_nil ?_|refine W_A rfl ?_|refine DW_C rfl b1 ?_)
  exact⟨rfl,_,rfl,_,rfl,SubC.of_closed closed_bool⟩
end Go.Proofs.YtbcaejhhgkcgpaaGreatDoor
namespace Go.Proofs.YtbcaejhhgkcgpaaGreatDoor
open Go.Ab Go.RowKit Go.ChangeShapes Go.WideShapes Go.ChangeAt
theorem list_of2 {α:Type} {f:α→AV} {q:α→Prop}:∀{xs:List AV},(∀y,y∈xs→∃a,y=f a∧q a)→∃l:List α,xs=l.map f∧∀a,a∈l→q a
 |[],_=>⟨[],rfl,by simp⟩
 |x::r,h=>by
  obtain⟨a,rfl,ha⟩:=h x (by simp)
  obtain⟨l,rfl,hl⟩:=list_of2 (f:=f) (q:=q) (xs:=r) (fun y hy=>h y (by simp[hy]))
  refine⟨a::l,rfl,fun b hb=>?_⟩
  rcases List.mem_cons.1 hb with rfl|hb
  ·exact ha
  ·exact hl b hb
theorem chs_of {x:AV} (h:Go.Ab.shape tab 8 22 [x]):∃l:List Ch,x=chA l .none∧l.length≤reachBytes:=by
 obtain⟨ys,hx,hb2,hall2⟩:=h
 cases hx
 obtain⟨m,rfl,_⟩:=list_of2 (f:=Ch.av) (q:=fun _=>True) (xs:=ys) fun z hz=>by
  obtain⟨c,rfl,a,b,rfl,⟨p,rfl,_⟩,a2,b2,rfl,⟨g,rfl⟩,a3,b3,rfl,⟨d1,e1,rfl,⟨s,rfl,_⟩,d2,e2,rfl,⟨m,rfl,_⟩,d3,e3,rfl,⟨ns,rfl,_,hn⟩,rfl⟩,rfl⟩:=hall2 z hz
  obtain⟨k,rfl,_⟩:=list_of2 (f:=fun n:Int=>AV.int .i64 n) (q:=fun _=>True) (xs:=ns) fun u hu=>by
   obtain⟨c,rfl,n,rfl,_⟩:=hn u hu
   exact⟨n,rfl,trivial⟩
  exact⟨⟨p,g,⟨s,m,k⟩⟩,rfl,trivial⟩
 exact⟨m,rfl,by simpa using hb2⟩
end Go.Proofs.YtbcaejhhgkcgpaaGreatDoor
