/- Parts of the proof, one behind the other. No further condition. -/
import Derived.Test.YtbcaejhhgkcgpaaDoorK17
import Derived.ProofKit
import Derived.ReadAgain
import Derived.Test.YtbcaejhhgkcgpaaDoorTie
import Derived.Test.YtbcaejhhgkcgpaaDoorCards
import Derived.OpenShut
import Derived.LaidMore
import Derived.Lay
import Derived.SevenTiedAt
import Derived.Stop.Joined
set_option linter.unusedVariables false
set_option linter.unusedSimpArgs false
namespace Go.Ab
open Go.RowKit
def mu0:Mu:=fun _=>none
def fr0:Frm:=fun _ _=>False
theorem free0 (b o:Nat):Free mu0 fr0 b o:=⟨fun h=>h,by rintro⟨id,h|⟨e,g,h,_⟩⟩<;>cases h⟩
structure RepCs (w:World) (l:List AV) (cs:List Value):Prop where
 len:l.length=cs.length
 rep:∀(i:Nat) (x:AV) (v:Value),l[i]? =some x→cs[i]? =some v→Rep mu0 fr0 w x v∧v.oneCell'=true
def sizeT (τ:Tab) (e:TypeId):Nat:=match lookup τ e with|some i=>i.size|none=>0
def elA (τ:Tab) (e:TypeId) (c:List AV):AV:=match lookup τ e with|some i=>(if i.agg=true then .agg c else c.getD 0 .top)|none=>.top
def shapes (sh:TypeId→List AV→Prop):List (Nat×TypeId)→List AV→Prop
 |[],l=>l=[]
 |(_,ft)::r,l=>∃a b,l=a++b∧sh ft a∧shapes sh r b
def shape (τ:Tab):Nat→TypeId→List AV→Prop
 |0,_,_=>False
 |n+1,t,l=>
  match lookup τ t with
  |none=>False
  |some i=>
   match i.k with
   |.int k=>∃m,l=[.int k m]∧(Lit.int k m).wf=true
   |.bool=>∃b,l=[.bool b]
   |.str=>∃s,l=[.str s]∧s.length≤reachBytes
   |.slice e=>∃xs,l=[.sl (sizeT τ e) xs .none]∧xs.length≤reachBytes∧∀x,x∈xs→∃c,x=elA τ e c∧shape τ n e c
   |.struct fs=>shapes (shape τ n) fs l
   |_=>False
def offsOK (τ:Tab):List (Nat×TypeId)→Nat→Nat→Bool
 |[],o,s=>o==s
 |(o',ft)::r,o,s=>o'==o&&(match lookup τ ft with|some fi=>offsOK τ r (o+fi.size) s|none=>false)
def plainT (τ:Tab):Nat→TypeId→Bool
 |0,_=>false
 |n+1,t=>
  match lookup τ t with
  |none=>false
  |some i=>
   match i.k with
   |.int _=>true
   |.bool=>true
   |.str=>true
   |.slice e=>plainT τ n e&&(match lookup τ e with|some ei=>decide (0 < ei.size)&&decide (0 < ei.bytes)&&(ei.agg||ei.size==1)|none=>false)
   |.struct fs=>fs.all (fun p=>plainT τ n p.2)&&offsOK τ fs 0 i.size
   |_=>false
section
variable {H:Type} {enc:TypeId×Value→H} {P:Program} {τ:Tab} {w:World} {base:Nat} {spare:Nat→Bool} {held:Bool}
theorem repCs_one {x:AV} {v:Value} (h:Rep mu0 fr0 w x v) (h1:v.oneCell'=true):RepCs w [x] [v]:=by
 refine⟨rfl,?_⟩
 intro i y u hy hu
 cases i with
 |zero=>cases hy;cases hu;exact⟨h,h1⟩
 |succ i=>simp at hy
theorem repCs_app {l m:List AV} {c d:List Value} (h:RepCs w l c) (k:RepCs w m d):RepCs w (l++m) (c++d):=by
 refine⟨by simp[h.len,k.len],?_⟩
 intro i x v hx hv
 by_cases hi:i < l.length
 ·rw[List.getElem?_append_left hi] at hx
  rw[List.getElem?_append_left (by rw[←h.len];exact hi)] at hv
  exact h.rep i x v hx hv
 ·rw[List.getElem?_append_right (by omega)] at hx
  rw[List.getElem?_append_right (by rw[←h.len];omega),←h.len] at hv
  exact k.rep _ x v hx hv
theorem fields_rep {n:Nat} {cs:List Value} {size:Nat} (hlen:cs.length=size):∀(fs:List (Nat×TypeId)) (o:Nat),offsOK τ fs o size=true→o≤size→
  (∀p,p∈fs→∀fi,lookup τ p.2=some fi→∃l,RepCs w l ((cs.drop p.1).take fi.size)∧shape τ n p.2 l)→∃l,RepCs w l (cs.drop o)∧shapes (shape τ n) fs l
 |[],o,h,ho,_=>by
  simp only[offsOK,beq_iff_eq] at h
  refine⟨[],⟨by simp[hlen,h],by simp⟩,rfl⟩
 |(o',ft)::r,o,h,ho,hall=>by
  simp only[offsOK,Bool.and_eq_true,beq_iff_eq] at h
  obtain⟨h1,h2⟩:=h
  subst h1
  split at h2
  case h_2=>cases h2
  rename_i fi hfi
  obtain⟨a,ha,hsa⟩:=hall (o',ft) List.mem_cons_self fi hfi
  have hle:o'+fi.size≤size:=by
   clear hall ha hsa
   have key:∀(r:List (Nat×TypeId)) (o:Nat),offsOK τ r o size=true→o≤size:=by
    intro r
    induction r with
    |nil=>intro o h;simp only[offsOK,beq_iff_eq] at h;omega
    |cons p r ih=>
     intro o h
     obtain⟨po,pt⟩:=p
     simp only[offsOK,Bool.and_eq_true,beq_iff_eq] at h
     obtain⟨h3,h4⟩:=h
     split at h4
     ·have:=ih _ h4;omega
     ·cases h4
   exact key r _ h2
  obtain⟨b,hb,hsb⟩:=fields_rep hlen r (o'+fi.size) h2 hle (fun p hp=>hall p (List.mem_cons_of_mem _ hp))
  refine⟨a++b,?_,a,b,rfl,hsa,hsb⟩
  have e:cs.drop o'=(cs.drop o').take fi.size++cs.drop (o'+fi.size):=by
   rw[←List.drop_drop]
   exact (List.take_append_drop _ _).symm
  rw[e]
  exact repCs_app ha hb
theorem weightsAll_get {e:TypeId}:∀{l:List (DataW H)},(DataW.weightsAll P e l).all (·≤reachBytes)=true→∀{i:Nat} {d:DataW H},l[i]? =some d→(d.weights P e).all (·≤reachBytes)=true
 |[],_,i,_,hd=>by simp at hd
 |a::r,h,0,d,hd=>by
  cases hd
  simp only[DataW.weightsAll,List.all_append,Bool.and_eq_true] at h
  exact h.1
 |a::r,h,i+1,d,hd=>by
  simp only[DataW.weightsAll,List.all_append,Bool.and_eq_true] at h
  exact weightsAll_get h.2 hd
theorem weightsEach_get:∀{ts:List TypeId} {l:List (DataW H)},(DataW.weightsEach P ts l).all (·≤reachBytes)=true→∀{i:Nat} {t:TypeId} {d:DataW H},ts[i]? =some t→l[i]? =some d→(d.weights P t).all (·≤reachBytes)=true
 |[],_,_,i,_,_,ht,_=>by simp at ht
 |_::_,[],_,i,_,_,_,hd=>by simp at hd
 |t::ts,a::r,h,0,_,d,ht,hd=>by
  cases hd
  cases ht
  simp only[DataW.weightsEach,List.all_append,Bool.and_eq_true] at h
  exact h.1
 |t::ts,a::r,h,i+1,_,d,ht,hd=>by
  simp only[DataW.weightsEach,List.all_append,Bool.and_eq_true] at h
  exact weightsEach_get h.2 ht hd
theorem trod_rep (hτ:TabOK P τ):∀(n fuel:Nat) (t:TypeId) (cs:List Value) (x:DataW H×List MemPlace),plainT τ n t=true→DataW.trod enc P w base spare held fuel t cs=some x→(x.1.weights P t).all (·≤reachBytes)=true→
  ∃l,RepCs w l cs∧shape τ n t l
 |0,_,_,_,_,h,_,_=>by cases h
 |n+1,fuel,t,cs,x,hp,h,hwt=>by
  simp only[plainT] at hp
  split at hp
  case h_1=>cases hp
  rename_i i hi
  obtain⟨f,fd,z,HI⟩:=TI.spec hτ hi
  have hf:=HI.fits
  have hu:=HI.und
  have hfuel:∃m,fuel=m+1:=by
   cases fuel with
   |zero=>simp[DataW.trod] at h
   |succ m=>exact⟨m,rfl⟩
  obtain⟨m,rfl⟩:=hfuel
  have hsh:∀l,shape τ (n+1) t l=(match i.k with
   |.int k=>∃m,l=[.int k m]∧(Lit.int k m).wf=true
   |.bool=>∃b,l=[.bool b]
   |.str=>∃s,l=[.str s]∧s.length≤reachBytes
   |.slice e=>∃xs,l=[.sl (sizeT τ e) xs .none]∧xs.length≤reachBytes∧∀x,x∈xs→∃c,x=elA τ e c∧shape τ n e c
   |.struct fs=>shapes (shape τ n) fs l
   |_=>False):=fun l=>by simp only[shape,hi]
  split at hp
  ·rename_i k hk
   rw[hk] at hf
   cases fd<;>simp[TK.fits] at hf
   subst hf
   obtain⟨n0,hcs,_,hwf⟩:=DataW.trod_int hu h
   subst hcs
   refine⟨[.int k n0],repCs_one (.int _ _) rfl,?_⟩
   rw[hsh,hk]
   exact⟨n0,rfl,hwf⟩
  ·rename_i hk
   rw[hk] at hf
   cases fd<;>simp[TK.fits] at hf
   obtain⟨b0,hcs,_⟩:=DataW.trod_bool hu h
   subst hcs
   refine⟨[.bool b0],repCs_one (.bool _) rfl,?_⟩
   rw[hsh,hk]
   exact⟨b0,rfl⟩
  ·rename_i hk
   rw[hk] at hf
   cases fd<;>simp[TK.fits] at hf
   obtain⟨s0,hcs,hx0,_⟩:=DataW.trod_string hu h
   subst hcs
   rw[hx0] at hwt
   have hle:s0.data.toList.length≤reachBytes:=by simpa [DataW.weights] using hwt
   have hs:=Rep.str (μ:=mu0) (F:=fr0) (w:=w) s0.data.toList
   refine⟨[.str s0.data.toList],repCs_one (by simpa using hs) rfl,?_⟩
   rw[hsh,hk]
   exact⟨_,rfl,hle⟩
  ·rename_i e hk
   rw[hk] at hf
   cases fd<;>simp[TK.fits] at hf
   subst hf
   simp only[Bool.and_eq_true] at hp
   obtain⟨hpe,hp2⟩:=hp
   split at hp2
   case h_2=>cases hp2
   rename_i ei hei
   simp only[Bool.and_eq_true,decide_eq_true_eq] at hp2
   obtain⟨⟨hpos,hby⟩,hone⟩:=hp2
   obtain⟨fe,de,ze,HE⟩:=TI.spec hτ hei
   have hce:P.cellsOf e=ei.size:=HE.cellsOf
   have hsz:sizeT τ e=ei.size:=by simp[sizeT,hei]
   rcases DataW.trod_slice hu h with ⟨rfl,_⟩|⟨a,len,cap,elems,rest,m',hm',rfl,hx0,hb,hlc,hcm,hel,hall,_⟩
   ·refine⟨[.sl ei.size [] .none],repCs_one ?_ rfl,?_⟩
    ·exact Rep.sl _ [] .none none 0 ⟨0,0,none⟩ (fun _=>undef) (by simp) (by simp) (by simp) (by simp) (by simp) (by simp) trivial
    ·rw[hsh,hk]
     exact⟨[],by rw[hsz],by simp,by simp⟩
   ·rw[hx0] at hwt
    have hbe:P.bytesOf e=ei.bytes:=by simp[Program.bytesOf,HE.info,HE.bytes]
    simp only[DataW.weights,hu,List.all_cons,List.all_append,Bool.and_eq_true,decide_eq_true_eq,List.length_map] at hwt
    obtain⟨hw1,hw2,_⟩:=hwt
    rw[hbe,hel] at hw1
    have hlr:len≤reachBytes:=by
     have h1:(len+rest.length)*1≤(len+rest.length)*ei.bytes:=Nat.mul_le_mul_left _ hby
     omega
    have hget:∀i,i < len→∃cs' l,(w.cells? base (a.add (i*ei.size)) ei.size=some cs')∧RepCs w l cs'∧shape τ n e l:=by
     intro i hi'
     have h1:=hall i hi'
     rw[hce] at h1
     have h2:∃y,elems[i]? =some y:=⟨_,List.getElem?_eq_getElem (by omega)⟩
     obtain⟨y,hy⟩:=h2
     rw[hy] at h1
     obtain⟨cs',h3,h4⟩:=Option.bind_eq_some_iff.1 h1
     obtain⟨l,h5,h6⟩:=trod_rep hτ n _ e cs' y hpe h4 (weightsAll_get hw2 (i:=i) (by rw[List.getElem?_map,hy];rfl))
     exact⟨cs',l,h3,h5,h6⟩
    have hget':∀i:Nat,∃p:List Value×List AV,i < len→(w.cells? base (a.add (i*ei.size)) ei.size=some p.1)∧RepCs w p.2 p.1∧shape τ n e p.2:=by
     intro i
     by_cases hi':i < len
     ·obtain⟨cs',l,h1,h2,h3⟩:=hget i hi'
      exact⟨(cs',l),fun _=>⟨h1,h2,h3⟩⟩
     ·exact⟨([],[]),fun h=>absurd h hi'⟩
    obtain⟨CL,hCL0⟩:=Classical.axiomOfChoice hget'
    obtain⟨C,hC⟩:∃C:Nat→List Value,∀i,C i=(CL i).1:=⟨_,fun _=>rfl⟩
    obtain⟨L,hL0⟩:∃L:Nat→List AV,∀i,L i=(CL i).2:=⟨_,fun _=>rfl⟩
    have hCL:∀i,i < len→(w.cells? base (a.add (i*ei.size)) ei.size=some (C i))∧RepCs w (L i) (C i)∧shape τ n e (L i):=by
     intro i hi'
     rw[hC,hL0]
     exact hCL0 i hi'
    have hlenL:∀i,i < len→(L i).length=ei.size:=by
     intro i hi'
     obtain⟨h1,h2,_⟩:=hCL i hi'
     rw[h2.len]
     exact (World.cells?_some h1).2.1
    have hcells:∀i,i < len→(elA τ e (L i)).cells=L i:=by
     intro i hi'
     have h1:=hlenL i hi'
     simp only[elA,hei]
     by_cases hagg:ei.agg=true
     ·simp[hagg,AV.cells]
     ·have h1':ei.size=1:=by
       rcases Bool.or_eq_true _ _ ▸ hone with h|h
       ·exact absurd h hagg
       ·simpa using h
      rw[if_neg hagg]
      rw[h1'] at h1
      match hL:L i,h1 with
      |[y],_=>
       obtain⟨g1,g2,g3⟩:=hCL i hi'
       have hcl:(C i).length=1:=by rw[←g2.len,hL];rfl
       obtain⟨v,hv⟩:∃v,(C i)[0]? =some v:=⟨_,List.getElem?_eq_getElem (by omega)⟩
       have hr:=g2.rep 0 y v (by rw[hL];rfl) hv
       simp only[List.getD_cons_zero]
       cases y<;>first|rfl|skip
       obtain⟨c,rfl,_⟩:=hr.1.agg_inv
       simp[Value.oneCell'] at hr
    have hspot:0 < len→a.spot=none:=by
     intro h0
     obtain⟨h1,_⟩:=hCL 0 h0
     obtain⟨_,g2,g3⟩:=World.cells?_some h1
     have h4:=g3 0 hpos
     have h5:∃v,(C 0)[0]? =some v:=⟨_,List.getElem?_eq_getElem (by omega)⟩
     obtain⟨v,hv⟩:=h5
     rw[hv] at h4
     simpa [Addr.add] using World.cell?_spot h4
    refine⟨[.sl ei.size ((List.range len).map fun i=>elA τ e (L i)) .none],repCs_one ?_ rfl,?_⟩
    ·have hxs:∀(i:Nat) (x:AV),((List.range len).map fun i=>elA τ e (L i))[i]? =some x→i < len∧x=elA τ e (L i):=by
      intro i x hx
      simp only[List.getElem?_map,List.getElem?_range,Option.map_eq_some_iff] at hx
      by_cases hi':i < len
      ·simp[hi'] at hx
       exact⟨hi',hx.symm⟩
      ·simp[hi'] at hx
     have hl0:((List.range len).map fun i=>elA τ e (L i)).length=len:=by simp
     have hv:Value.slice (some a) len cap=Value.slice (some a) ((List.range len).map fun i=>elA τ e (L i)).length cap:=by rw[hl0]
     rw[hv]
     refine Rep.sl ei.size _ .none (some a) cap a (fun p=>(C (p/ei.size)).getD (p%ei.size) undef) ?_ (by rw[hl0];exact hlc) ?_ ?_ ?_ ?_ trivial
     ·intro x hx
      obtain⟨i,hi'⟩:=List.getElem?_of_mem hx
      obtain⟨h1,rfl⟩:=hxs i x hi'
      rw[hcells i h1]
      exact hlenL i h1
     ·intro h0
      rw[hl0] at h0
      exact⟨rfl,hspot h0⟩
     all_goals
      intro i x j c hx hc
      obtain⟨h1,rfl⟩:=hxs i x hx
      rw[hcells i h1] at hc
      obtain⟨g1,g2,g3⟩:=hCL i h1
      have hj:j < ei.size:=by rw[←hlenL i h1];exact (List.getElem?_eq_some_iff.1 hc).1
      have hd:(i*ei.size+j)/ei.size=i:=by
       rw[Nat.mul_comm,Nat.mul_add_div hpos,Nat.div_eq_of_lt hj,Nat.add_zero]
      have hmd:(i*ei.size+j)%ei.size=j:=by
       rw[Nat.mul_comm,Nat.mul_add_mod,Nat.mod_eq_of_lt hj]
      have hcl:j < (C i).length:=by rw[←g2.len,hlenL i h1];exact hj
      have hval:(C i).getD j undef=(C i)[j]:=by simp[List.getD,List.getElem?_eq_getElem hcl]
      have hr:=g2.rep j c _ hc (List.getElem?_eq_getElem hcl)
      simp only[hd,hmd,hval]
     ·exact hr.2
     ·refine⟨?_,free0 _ _⟩
      obtain⟨_,k2,k3⟩:=World.cells?_some g1
      have k4:=k3 j hj
      rw[List.getElem?_eq_getElem hcl] at k4
      rw[←k4]
      have hs:=hspot (by omega)
      obtain⟨ab,ao,ags⟩:=a
      simp only at hs
      subst hs
      congr 1
      rw[Addr.add_lit,Addr.add_lit]
      simp[Nat.add_assoc]
     ·exact hr.1
    ·rw[hsh,hk]
     refine⟨_,by rw[hsz],by simp;exact hlr,?_⟩
     intro x hx
     obtain⟨i,hi',rfl⟩:=List.mem_map.1 hx
     exact⟨L i,rfl,(hCL i (List.mem_range.1 hi')).2.2⟩
  ·rename_i fs hk
   rw[hk] at hf
   cases fd<;>simp[TK.fits] at hf
   rename_i gs
   simp only[Bool.and_eq_true] at hp
   obtain⟨hpf,hoffs⟩:=hp
   obtain⟨xs,n',_,hx0,hcl,hxl,hget⟩:=DataW.trod_struct hu h
   rw[hx0] at hwt
   simp only[DataW.weights,hu] at hwt
   have hci:P.cellsOf t=i.size:=HI.cellsOf
   rw[hci] at hcl
   obtain⟨l,h1,h2⟩:=fields_rep (n:=n) hcl fs 0 hoffs (Nat.zero_le _) (by
    intro p hpm fi hfi
    have hp1:plainT τ n p.2=true:=List.all_eq_true.1 hpf p hpm
    rw[←hf] at hpm
    obtain⟨g,hg,rfl⟩:=List.mem_map.1 hpm
    obtain⟨j,hj⟩:=List.getElem?_of_mem hg
    have hgj:gs[j]? =some g:=by simpa using hj
    have h3:=hget j g hgj
    have hj2:j < xs.length:=by rw[hxl];exact (Array.getElem?_eq_some_iff.1 hgj).1
    rw[List.getElem?_eq_getElem hj2] at h3
    obtain⟨ff,fd',fz,HF⟩:=TI.spec hτ hfi
    rw[HF.cellsOf] at h3
    exact trod_rep hτ n _ _ _ _ hp1 h3 (weightsEach_get hwt (i:=j) (by rw[List.getElem?_map,hj];rfl) (by rw[List.getElem?_map,List.getElem?_eq_getElem hj2];rfl)))
   refine⟨l,by simpa using h1,?_⟩
   rw[hsh,hk]
   exact h2
  ·cases hp
end
end Go.Ab
namespace Go.Ab
open Go.RowKit Go.ChangeShapes
section
variable {H:Type} {enc:TypeId×Value→H} {P:Program}
theorem arg_one {τ:Tab} (hτ:TabOK P τ) {n:Nat} {t:TypeId} (hp:plainT τ n t=true) {w:World} {base:Nat} {spare:Nat→Bool} {held:Bool} {v:Value} {d:DataW H} {p:List MemPlace} (h:DataW.Trod enc P w base spare held t v d p)
  (hw:(d.weights P t).all (·≤reachBytes)=true) (hv:v.cells.toList=[v]):∃x,Rep mu0 fr0 w x v∧shape τ n t [x]:=by
 obtain⟨fuel,hf⟩:=h
 rw[hv] at hf
 obtain⟨l,h1,h2⟩:=trod_rep hτ n fuel t [v] _ hp hf hw
 have hl:=h1.len
 match l,hl with
 |[x],_=>exact⟨x,(h1.rep 0 x v rfl rfl).1,h2⟩
theorem trodAll_stays (hl:laidOutB P=true) {W W':World} (hb:Below W.heap.size W W') {sp:Nat→Bool}:∀{ts:List TypeId} {vs:List Value} {ds:List (DataW H)} {ps:List MemPlace},(∀t∈ts,P.readableRec t=true∧t < P.types.size)→
  DataW.TrodAll enc P W 0 (fun _=>true) true ts vs ds ps→(∀p∈ps,p.block < W.heap.size)→(∀p∈ps,sp p.block=true)→DataW.TrodAll enc P W' 0 sp true ts vs ds ps
 |[],[],[],_,_,h,_,_=>h
 |t::ts,v::vs,d::ds,_,hts,⟨p,q,h1,h2,e⟩,hlt,hs=>by
  subst e
  refine⟨p,q,?_,trodAll_stays hl hb (fun t ht=>hts t (List.mem_cons_of_mem _ ht)) h2 (fun x hx=>hlt x (List.mem_append_right _ hx)) (fun x hx=>hs x (List.mem_append_right _ hx)),rfl⟩
  exact WideElems.Trod_stays hl (hts t List.mem_cons_self).1 (hts t List.mem_cons_self).2 h1 (fun x hx=>hb.same (hlt x (List.mem_append_left _ hx))) (fun x hx=>hs x (List.mem_append_left _ hx))
 |[],_::_,_,_,_,h,_,_=>h.elim
 |[],[],_::_,_,_,h,_,_=>h.elim
 |_::_,[],_,_,_,h,_,_=>h.elim
 |_::_,_::_,[],_,_,h,_,_=>h.elim
theorem law_post (hl:laidOutB P=true) {f:Func} {s:ChangeSpec} (hv:s.vars=[]) {tb:TypeId} (htb:P.underlying tb=some .bool) (hrt:f.resultTypes=#[tb]) (hts:∀t∈f.params.toList,P.readableRec t=true∧t < P.types.size)
  {W W':World} {args:Array Value} {ds gs:List (DataW H)} {before:List MemPlace} (hW:DataW.Whole enc P f.params.toList s.vars false W args.toList ds gs before) (hb:Below W.heap.size W W')
  (hres:(s.fn H (ds++gs)).results=[.lit (.bool true)]) (hargs:(s.fn H (ds++gs)).args=ds) (hvars:(s.fn H (ds++gs)).vars=[]):s.post enc P f false true false false W args (.bool true) W':=by
 have hlt:=hW.lt
 obtain⟨p,q,hA,hV,hps,_,_⟩:=id hW
 rw[hv] at hV
 obtain⟨hgs,hq⟩:=trodVars_none hV
 refine⟨ds,gs,before,[],p,[],hW,?_,?_,?_,hb.frame _,fun h=>by cases h⟩
 ·rw[hres,hrt]
  exact trodAll_mk1 (shut_bool htb true)
 ·rw[hargs]
  refine trodAll_stays hl hb hts hA ?_ ?_
  ·intro x hx
   exact hlt x (by rw[hps];exact List.mem_append_left _ hx)
  ·intro x hx
   simpa using hlt x (by rw[hps];exact List.mem_append_left _ hx)
 ·rw[hvars,hv]
  rfl
theorem law_calls {g:FuncId} {args:List AV} (h:APure P g args (.bool true)) {w:World} {vs:Array Value} (hv:RepL mu0 fr0 w args vs):Calls P g vs w fun e w'=>e=.returned (.bool true)∧Below w.heap.size w w':=by
 have hno:∀b o,¬Own mu0 b o:=by rintro b o ⟨id,h|⟨e,g,h,_⟩⟩<;>cases h
 have hg:Gam mu0 fr0 ⟨0,[]⟩ w:=by
  refine {dom:=fun id=>(by simp[mu0]),obj:=fun id l hM=>(by cases hM),spare:=fun id g hM=>(by cases hM),raw:=fun id g o vs t hM=>(by cases hM),inj:=?_,frm:=fun b o ho=>absurd ho (hno b o),fit:=⟨fun b o ho=>absurd ho (hno b o),fun b o h=>h.elim⟩}
  rintro i j b (h|⟨_,_,h⟩) _<;>cases h
 refine ((h ⟨0,[]⟩).2 mu0 fr0 w vs hg hv).mono ?_
 rintro e w' ⟨μ',M',h1,h2,h3⟩
 have hb:Below w.heap.size w w':=⟨h1.os,h1.tape,h1.output,h1.size,fun k hk=>h1.same k hk (hno k)⟩
 cases e with
 |returned v=>
  obtain⟨x,h4,h5⟩:=h3
  obtain⟨e,_⟩:=h5
  cases e
  cases h4
  exact⟨rfl,hb⟩
 |panicked ch=>
  obtain⟨x,v,_,_,e,_⟩:=h3
  cases e
 |outgrown=>exact h3.elim
end
end Go.Ab
namespace Go.Proofs.YtbcaejhhgkcgpaaDoor
open Go.Ab Go.RowKit Go.ChangeShapes Go.WideShapes Go.ChangeAt
theorem Tryd.own:ownKnob Tryd.prog.godebug=none:=by kernel_rfl
theorem Tryd.laidOut:laidOutB Tryd.prog=true:=by kernel_rfl
set_option maxRecDepth 100000 in
theorem one_str {t:TypeId} {W:World} {base:Nat} {v:Value} (ht:Tryd.prog.underlying t=some .string) (h:Value.okWide Tryd.prog W .any base t v):v.cells.toList=[v]:=by
 obtain⟨s,rfl⟩:=okWide_string ht h
 rfl
set_option maxRecDepth 100000 in
theorem one_slice {e t:TypeId} {W:World} {base:Nat} {v:Value} (ht:Tryd.prog.underlying t=some (.slice e)) (h:Value.okWide Tryd.prog W .any base t v):v.cells.toList=[v]:=by
 obtain⟨a,l,c,rfl⟩:=okWide_slice ht h
 rfl
theorem str_of {n:Nat} {t:TypeId} {x:AV} (h:Go.Ab.shape tab n t [x]) (hk:(lookup tab t).map (·.k)=some .str):∃s:Bytes,x=.str s∧s.length≤reachBytes:=by
 cases n with
 |zero=>exact h.elim
 |succ n=>
  simp only[Go.Ab.shape] at h
  cases hl:lookup tab t with
  |none=>rw[hl] at h;exact h.elim
  |some i=>
   rw[hl] at h hk
   simp only[Option.map_some,Option.some.injEq] at hk
   simp only[hk] at h
   obtain⟨s,hs,hb⟩:=h
   cases hs
   exact⟨s,rfl,hb⟩
end Go.Proofs.YtbcaejhhgkcgpaaDoor
namespace Go.Proofs.YtbcaejhhgkcgpaaDoor
open Go.Ab Go.RowKit Go.ChangeShapes Go.WideShapes Go.ChangeAt
theorem list_of2 {α:Type} {f:α→AV} {q:α→Prop}:∀{xs:List AV},(∀y,y∈xs→∃a,y=f a∧q a)→∃l:List α,xs=l.map f∧∀a,a∈l→q a
 |[],_=>⟨[],rfl,by simp⟩
 |x::r,h=>by
  obtain⟨a,rfl,ha⟩:=h x (by simp)
  obtain⟨l,rfl,hl⟩:=list_of2 (f:=f) (q:=q) (xs:=r) (fun y hy=>h y (by simp[hy]))
  refine⟨a::l,rfl,fun b hb=>?_⟩
  rcases List.mem_cons.1 hb with rfl|hb
  ·exact ha
  ·exact hl b hb
theorem chs_of {x:AV} (h:Go.Ab.shape tab 8 22 [x]):∃l:List Ch,x=chA l .none∧l.length≤reachBytes:=by
 obtain⟨ys,hx,hb2,hall2⟩:=h
 cases hx
 obtain⟨m,rfl,_⟩:=list_of2 (f:=Ch.av) (q:=fun _=>True) (xs:=ys) fun z hz=>by
  obtain⟨c,rfl,a,b,rfl,⟨p,rfl,_⟩,a2,b2,rfl,⟨g,rfl⟩,a3,b3,rfl,⟨d1,e1,rfl,⟨s,rfl,_⟩,d2,e2,rfl,⟨m,rfl,_⟩,d3,e3,rfl,⟨ns,rfl,_,hn⟩,rfl⟩,rfl⟩:=hall2 z hz
  obtain⟨k,rfl,_⟩:=list_of2 (f:=fun n:Int=>AV.int .i64 n) (q:=fun _=>True) (xs:=ns) fun u hu=>by
   obtain⟨c,rfl,n,rfl,_⟩:=hn u hu
   exact⟨n,rfl,trivial⟩
  exact⟨⟨p,g,⟨s,m,k⟩⟩,rfl,trivial⟩
 exact⟨m,rfl,by simpa using hb2⟩
end Go.Proofs.YtbcaejhhgkcgpaaDoor
namespace Go.Proofs.YtbcaejhhgkcgpaaDoor
open Go.Ab
theorem drop_rev {l:List Ch} {j:Nat} {x:Ch} (h:l[j]? =some x):(l.drop j).reverse=(l.drop (j+1)).reverse++[x]:=by
 obtain⟨h1,rfl⟩:=List.getElem?_eq_some_iff.1 h
 rw[List.drop_eq_getElem_cons h1,List.reverse_cons]
theorem unlike_nodup {l:List Ch} (h:∀(i k:Nat) a b,k < i→l[i]? =some a→l[k]? =some b→b.path≠a.path):(l.map Ch.path).Nodup:=by
 rw[List.Nodup,List.pairwise_map,List.pairwise_iff_getElem]
 intro i j hi hj hij
 exact h j i _ _ hij (List.getElem?_eq_getElem hj) (List.getElem?_eq_getElem hi)
def boF (l:List Ch) (m g:Nat):AF:=⟨[(0,chA l .none),(3,chA (l.drop m).reverse (.tok 0 g)),(4,.int .i64 ((m:Int) - 1))],[]⟩
def boF2 (l:List Ch) (j g k:Nat):AF:=⟨[(0,chA l .none),(3,chA (l.drop (j+1)).reverse (.tok 0 g)),(4,.int .i64 (j:Int)),(5,.int .i64 (k:Int))],[]⟩
set_option maxRecDepth 100000 in
set_option maxHeartbeats 8000000 in
theorem bOrder_ok (l:List Ch) (hl:l.length < 4611686018427387904):APure Tryd.prog 4 [chA l .none] (.bool true):=by
 refine pure_sub (closed1 (closed_chs l (.inl rfl))) (closed_bool) ?_
 refine acalls_of tabOK Tryd.func4 rfl (by decide) (by simp[Tryd.f4]) ?_
 have b1:=bigC_ok l .none hl
 have la:=len_map Ch.av l
 cases h1:bigC l
 ·rw[h1] at b1
  obtain⟨l1,l2⟩:=bigC_no h1
  have sl:∀c,c∈l→shortCh c:=fun c hc=>by have:=l2 c hc;exact⟨by omega,by omega⟩
  have kl:=bLaid_ok
  have w0:IntKind.wrap .i64 ((l.length:Int) - 1)=(l.length:Int) - 1:=Go.Ab.wrap_small (by omega) (by omega)
  unfold chA at*
  repeat' (first|refine DW_VI tabs rfl (by first|exact la|exact w0) ?_|refine DW_A tabs rfl ?_|refine DW_nil ?_|refine W_A rfl ?_|refine DW_C rfl b1 ?_|refine DW_row tabOK rfl ?_|refine DW_app tabOK rfl rfl (by simp;omega) (by simp;omega) ?_|refine DW_app0 tabOK rfl (by simp;omega) (by simp;omega) ?_|refine W_draw mixed [0,1,5,6,2,3,4,7,8,9,10] [.P,.P,.R,.R,.R,.P,.P,.R,.R,.R,.P] rfl rfl (by kernel_rfl) ?_)
  refine W_loop (fun m f N=>m≤l.length∧(∃g,N=tokM g∧f=boF l m g)∧∀(i k:Nat) a b,m≤i→k < i→l[i]? =some a→l[k]? =some b→b.path≠a.path) (k:=l.length) ⟨Nat.le_refl _,⟨0,rfl,rfl⟩,fun i k a b hi _ ha=>by rw[List.getElem?_eq_none hi] at ha;cases ha⟩ ((Joint.tok 3 rfl (sz':=5) (.inr rfl)).trans (Joint.le ?_ (tokM_of rfl rfl))) ?_
  ·unfold boF chA
   rw[List.drop_length]
   repeat (refine AF.le_cons rfl ?_)
   exact AF.le_nil rfl
  rintro m f N ⟨hm,⟨g,rfl,rfl⟩,hU⟩
  unfold boF chA
  match m,hm,hU with
  |0,_,hU=>
   have hnd:=unlike_nodup (l:=l) fun i k a b hk ha hb=>hU i k a b (Nat.zero_le _) hk ha hb
   have hp:l.Perm l.reverse:=(List.reverse_perm l).symm
   have e1:=norm_perm hnd hp
   have e2:=norm_join hnd hp
   have d1:decide ((0:Int)≤((0:Nat):Int) - 1)=false:=rfl
   have n1:=bNorm_ok l .none (.inl rfl) (by omega) sl
   have sr:∀c,c∈l.reverse→shortCh c:=fun c hc=>sl c (List.mem_reverse.1 hc)
   have n2:=(bNorm_ok l.reverse .none (.inl rfl) (by rw[List.length_reverse];omega) sr).sub (args:=[chA l.reverse (.tok 0 g)]) ⟨Sub.untag,trivial⟩
   have n3:=(bJoin_ok l l.reverse (by omega) (by rw[List.length_reverse];omega) (fun c hc=>by
    rcases List.mem_append.1 hc with h|h
    ·exact sl c h
    ·exact sr c h)).sub (args:=[chA l .none,chA l.reverse (.tok 0 g)]) ⟨Sub.refl,Sub.untag,trivial⟩
   rw[←e1] at n2
   rw[e2] at n3
   have sm:=normSame_ok l (by omega) sl
   generalize normC l=z at*
   obtain⟨z,e⟩:=z
   have c1:decide (e=e)=true:=decide_eq_true rfl
   rw[List.drop_zero]
   unfold nmA at n1 n2 n3
   dsimp only at n1 n2 n3 sm
   unfold chA at n1 n2 n3 sm
   repeat' (first|refine DW_VB tabs rfl (by first|exact d1|exact c1) ?_|refine DW_A tabs rfl ?_|refine DW_nil ?_|refine W_A rfl ?_|refine DW_C rfl n1 ?_|refine DW_C rfl n2 ?_|refine DW_C rfl n3 ?_|refine DW_C rfl sm ?_|refine DW_C rfl kl ?_|refine DW_row tabOK rfl ?_|refine DW_app tabOK rfl rfl (by simp;omega) (by simp;omega) ?_|refine DW_app0 tabOK rfl (by simp;omega) (by simp;omega) ?_|refine W_draw mixed [0,1,5,6,2,3,4,7,8,9,10] [.P,.P,.R,.R,.R,.P,.P,.R,.R,.R,.P] rfl rfl (by kernel_rfl) ?_)
   exact⟨rfl,_,rfl,_,rfl,SubC.of_closed closed_bool⟩
  |j+1,hm,hU=>
   have ej:(((j+1:Nat):Int) - 1)=(j:Int):=by omega
   rw[ej]
   have hx:l[j]? =some l[j]:=List.getElem?_eq_getElem (by omega)
   have hr:=drop_rev hx
   generalize l[j]=x at hx hr
   have d1:decide ((0:Int)≤(j:Int))=true:=decide_eq_true (by omega)
   have wj:IntKind.wrap .i64 ((j:Int) - 1)=(j:Int) - 1:=Go.Ab.wrap_small (by omega) (by omega)
   have lr:=len_map Ch.av (l.drop (j+1)).reverse
   have lr2:(l.drop (j+1)).reverse.length≤50:=by rw[List.length_reverse,List.length_drop];omega
   repeat' (first|refine DW_VB tabs rfl d1 ?_|refine DW_A tabs rfl ?_|refine DW_nil ?_|refine W_A rfl ?_|refine DW_row tabOK rfl ?_|refine DW_app tabOK rfl rfl (by simp;omega) (by simp;omega) ?_|refine DW_app0 tabOK rfl (by simp;omega) (by simp;omega) ?_|refine W_draw mixed [0,1,5,6,2,3,4,7,8,9,10] [.P,.P,.R,.R,.R,.P,.P,.R,.R,.R,.P] rfl rfl (by kernel_rfl) ?_)
   refine W_count j (fun k f N=>N=tokM g∧(∀(q:Nat) b,q < k→l[q]? =some b→b.path≠x.path)∧f=boF2 l j g k) (Nat.zero_le _) ⟨rfl,(fun q b hq=>absurd hq (Nat.not_lt_zero _)),rfl⟩ (Joint.le ?_ (Mem.le_refl _)) ?_
   ·unfold boF2 chA
    repeat (refine AF.le_cons rfl ?_)
    exact AF.le_nil rfl
   rintro k f N hk ⟨rfl,hq,rfl⟩
   unfold boF2 chA
   by_cases g1:k < j
   ·have d2:decide ((k:Int) < (j:Int))=true:=decide_eq_true (by omega)
    have hy:l[k]? =some l[k]:=List.getElem?_eq_getElem (by omega)
    have fk:=wrap_succ (i:=k) (by omega)
    generalize l[k]=y at hy
    by_cases h2:y.path=x.path
    ·have d3:(y.path==x.path)=true:=by simp[h2]
     repeat' (first|refine DW_VB tabs rfl (by first|exact d2|exact d3) ?_|refine DW_VI tabs rfl fk ?_|refine DW_A tabs rfl ?_|refine DW_nil ?_|refine W_A rfl ?_|refine DW_C rfl kl ?_|refine DW_ix tabOK rfl (ixN hy) ?_|refine DW_ix tabOK rfl (ixN hx) ?_|refine DW_row tabOK rfl ?_|refine DW_app tabOK rfl rfl (by simp;omega) (by simp;omega) ?_|refine DW_app0 tabOK rfl (by simp;omega) (by simp;omega) ?_|refine W_draw mixed [0,1,5,6,2,3,4,7,8,9,10] [.P,.P,.R,.R,.R,.P,.P,.R,.R,.R,.P] rfl rfl (by kernel_rfl) ?_)
     exact⟨rfl,_,rfl,_,rfl,SubC.of_closed closed_bool⟩
    ·have d3:(y.path==x.path)=false:=by simp[h2]
     repeat' (first|refine DW_VB tabs rfl (by first|exact d2|exact d3) ?_|refine DW_VI tabs rfl fk ?_|refine DW_A tabs rfl ?_|refine DW_nil ?_|refine W_A rfl ?_|refine DW_ix tabOK rfl (ixN hy) ?_|refine DW_ix tabOK rfl (ixN hx) ?_|refine DW_row tabOK rfl ?_|refine DW_app tabOK rfl rfl (by simp;omega) (by simp;omega) ?_|refine DW_app0 tabOK rfl (by simp;omega) (by simp;omega) ?_|refine W_draw mixed [0,1,5,6,2,3,4,7,8,9,10] [.P,.P,.R,.R,.R,.P,.P,.R,.R,.R,.P] rfl rfl (by kernel_rfl) ?_)
     refine⟨g1,_,_,⟨rfl,?_,rfl⟩,Joint.le ?_ (Mem.le_refl _)⟩
     ·intro q b hqk hb
      by_cases e:q=k
      ·subst e
       rw[hy] at hb
       cases hb
       exact h2
      ·exact hq q b (by omega) hb
     ·skip
      repeat (refine AF.le_cons rfl ?_)
      exact AF.le_nil rfl
   ·have d2:decide ((k:Int) < (j:Int))=false:=decide_eq_false (by omega)
    obtain rfl:k=j:=by omega
    repeat' (first|refine DW_VB tabs rfl d2 ?_|refine DW_VI tabs rfl (by first|exact wj|exact lr) ?_|refine DW_A tabs rfl ?_|refine DW_nil ?_|refine W_A rfl ?_|refine DW_ix tabOK rfl (ixN hx) ?_|refine DW_row tabOK rfl ?_|refine DW_app tabOK rfl rfl (by simp;omega) (by simp;omega) ?_|refine DW_app0 tabOK rfl (by simp;omega) (by simp;omega) ?_|refine W_draw mixed [0,1,5,6,2,3,4,7,8,9,10] [.P,.P,.R,.R,.R,.P,.P,.R,.R,.R,.P] rfl rfl (by kernel_rfl) ?_)
    refine⟨k,boF l k (g+1),tokM (g+1),Nat.lt_succ_self _,⟨by omega,⟨g+1,rfl,rfl⟩,?_⟩,Joint.le ?_ (tokM_of rfl rfl)⟩
    ·intro i q a b hi hqi ha hb
     by_cases e:i=k
     ·subst e
      rw[hx] at ha
      cases ha
      exact hq q b hqi hb
     ·exact hU i q a b (by omega) hqi ha hb
    ·unfold boF chA
     rw[hr,List.map_append]
     repeat (refine AF.le_cons rfl ?_)
     exact AF.le_nil rfl
 ·rw[h1] at b1
  unfold chA at b1 ⊢
  repeat' (first|refine DW_A tabs rfl ?_|refine DW_nil ?_|refine W_A rfl ?_|refine DW_C rfl b1 ?_|refine DW_row tabOK rfl ?_|refine DW_app tabOK rfl rfl (by simp;omega) (by simp;omega) ?_|refine DW_app0 tabOK rfl (by simp;omega) (by simp;omega) ?_|refine W_draw mixed [0,1,5,6,2,3,4,7,8,9,10] [.P,.P,.R,.R,.R,.P,.P,.R,.R,.R,.P] rfl rfl (by kernel_rfl) ?_)
  exact⟨rfl,_,rfl,_,rfl,SubC.of_closed closed_bool⟩
end Go.Proofs.YtbcaejhhgkcgpaaDoor
namespace Go.Proofs.YtbcaejhhgkcgpaaDoor
open Go.Ab
theorem sl_one {α:Type} {f:α→AV} {l:List α} {k:Nat} {x:α} (h:l[k]? =some x):(0:Int)≤(k:Int)∧(k:Int)≤((k+1:Nat):Int)∧((k+1:Nat):Int)≤((l.map f).length:Int)∧((l.map f).take ((k+1:Nat):Int).toNat).drop (k:Int).toNat=[x].map f:=by
 obtain⟨h1,rfl⟩:=List.getElem?_eq_some_iff.1 h
 refine⟨by omega,by omega,by simp;omega,?_⟩
 rw[Int.toNat_natCast,Int.toNat_natCast,←List.map_take,←List.map_drop,List.take_succ_eq_append_getElem h1,List.drop_append_of_le_length (by simp;omega)]
 simp
theorem one_eq (x y:Ch):decide ([x]=[y])=decide (x=y):=by
 rw[Bool.eq_iff_iff]
 simp
theorem nodup_sub {α:Type} [DecidableEq α]:∀{a b:List α},a.Nodup→(∀x,x∈a→x∈b)→a.length≤b.length
 |[],b,_,_=>Nat.zero_le _
 |x::a,b,h,hs=>by
  obtain⟨h1,h2⟩:=List.nodup_cons.1 h
  have hx:=hs x (by simp)
  have ih:=nodup_sub (a:=a) (b:=b.erase x) h2 (fun y hy=>by
   have hne:y≠x:=fun e=>h1 (e ▸ hy)
   exact (List.mem_erase_of_ne hne).2 (hs y (by simp[hy])))
  rw[List.length_erase_of_mem hx] at ih
  have:=List.length_pos_of_mem hx
  simp only[List.length_cons]
  omega
theorem rise_nodup {l:List Ch} (h:RiseC l):(l.map Ch.path).Nodup:=by
 rw[List.Nodup,List.pairwise_map]
 exact h.imp fun {a b} hab e=>by rw[e,bl_irrefl] at hab;cases hab
theorem join_len {l m:List Ch} (hl:RiseC l) (hm:RiseC m):l.length≤(sortC (l++m)).length∧m.length≤(sortC (l++m)).length∧(sortC (l++m)).length≤l.length+m.length:=by
 have key:∀c,c∈l++m→c.path∈(sortC (l++m)).map Ch.path:=fun c hc=>by
  obtain⟨d,hd⟩:=lastC_mem (l++m) hc
  have e:=(lastC_path (l++m) hd).1
  exact List.mem_map.2 ⟨d,(mem_sortC _ _).2 (by rw[e];exact hd),e⟩
 have part:∀a:List Ch,RiseC a→(∀c,c∈a→c∈l++m)→a.length≤(sortC (l++m)).length:=fun a ha hs=>by
  have:=nodup_sub (rise_nodup ha) (b:=(sortC (l++m)).map Ch.path) (fun p hp=>by
   obtain⟨c,hc,rfl⟩:=List.mem_map.1 hp
   exact key c (hs c hc))
  simpa using this
 refine⟨part l hl (fun c hc=>by simp[hc]),part m hm (fun c hc=>by simp[hc]),?_⟩
 have:=sortC_len (l++m)
 simpa using this
theorem join_few {l m:List Ch} (hl:batchB l=true) (hm:batchB m=true) (h:batchB (sortC (l++m))=false):20 < l.length+m.length:=by
 obtain⟨a1,a2,a3,a4⟩:=batch_rise hl
 obtain⟨b1,b2,b3,b4⟩:=batch_rise hm
 obtain⟨c1,c2,c3⟩:=join_len a4 b4
 rcases Nat.lt_or_ge 20 (l.length+m.length) with h1|h1
 ·exact h1
 ·have hr:=rise_sortC (l++m)
  have hall:(sortC (l++m)).all mayB=true:=List.all_eq_true.2 fun c hc=>by
   rcases List.mem_append.1 (sortC_mem hc) with h|h
   ·exact a3 c h
   ·exact b3 c h
  unfold batchB at h
  rw[hall,decide_eq_true hr,decide_eq_true (show 1≤(sortC (l++m)).length by omega),decide_eq_true (show (sortC (l++m)).length≤20 by omega)] at h
  cases h
def ovB (m:List Ch) (y:Ch) (k:Nat):Bool:=(m.take k).any fun x=>x.path==y.path
def inB (m:List Ch) (y:Ch) (k:Nat):Bool:=(m.take k).any fun x=>decide (x=y)
theorem ovB_succ {m:List Ch} {y x:Ch} {k:Nat} (h:m[k]? =some x):ovB m y (k+1)=(ovB m y k||x.path==y.path):=by
 unfold ovB
 rw[take_succ h]
 simp
theorem inB_succ {m:List Ch} {y x:Ch} {k:Nat} (h:m[k]? =some x):inB m y (k+1)=(inB m y k||decide (x=y)):=by
 unfold inB
 rw[take_succ h]
 simp
theorem join_in {l m:List Ch} (hl:RiseC l) (hm:RiseC m) {y:Ch} (hy:y∈sortC (l++m)):(inB m y m.length||(!ovB m y m.length&&inB l y l.length))=true:=by
 unfold inB ovB
 rw[List.take_length,List.take_length]
 rcases (join_mem hl hm y).1 hy with h|⟨h,h2⟩
 ·rw[List.any_eq_true.2 ⟨y,h,by simp⟩]
  rfl
 ·have e1:(m.any fun x=>x.path==y.path)=false:=by
   rw[List.any_eq_false]
   intro x hx
   simpa using h2 x hx
  have e2:(l.any fun x=>decide (x=y))=true:=List.any_eq_true.2 ⟨y,h,by simp⟩
  rw[e1,e2]
  simp
def blF (l m J:List Ch) (i:Nat):AF:=⟨[(0,chA l .none),(1,chA m .none),(5,chA J .none),(7,.int .i64 (i:Int))],[]⟩
def blF2 (l m J:List Ch) (i:Nat) (a b:Bool) (k:Nat):AF:=⟨[(0,chA l .none),(1,chA m .none),(5,chA J .none),(7,.int .i64 (i:Int)),(8,.bool a),(9,.bool b),(10,.int .i64 (k:Int))],[]⟩
def blF3 (l m J:List Ch) (i:Nat) (a b:Bool) (k:Nat):AF:=⟨[(0,chA l .none),(1,chA m .none),(5,chA J .none),(7,.int .i64 (i:Int)),(8,.bool a),(9,.bool b),(11,.int .i64 (k:Int))],[]⟩
set_option maxRecDepth 100000 in
set_option maxHeartbeats 8000000 in
theorem bLast_ok (l m:List Ch) (hl:l.length < 4611686018427387904) (hm:m.length < 4611686018427387904):APure Tryd.prog 5 [chA l .none,chA m .none] (.bool true):=by
 refine pure_sub (closed2 (closed_chs l (.inl rfl)) (closed_chs m (.inl rfl))) (closed_bool) ?_
 refine acalls_of tabOK Tryd.func5 rfl (by decide) (by simp[Tryd.f5]) ?_
 have b1:=bigC_ok l .none hl
 have b2:=bigC_ok m .none hm
 have la:=len_map Ch.av l
 have lm:=len_map Ch.av m
 have kl:=bLaid_ok
 cases h1:bigC l
 ·rw[h1] at b1
  cases h2:bigC m
  ·rw[h2] at b2
   obtain⟨l1,l2⟩:=bigC_no h1
   obtain⟨m1,m2⟩:=bigC_no h2
   have sl:∀c,c∈l→shortCh c:=fun c hc=>by have:=l2 c hc;exact⟨by omega,by omega⟩
   have sm:∀c,c∈m→shortCh c:=fun c hc=>by have:=m2 c hc;exact⟨by omega,by omega⟩
   have k1:=bIs_ok l .none (by omega) sl
   have k2:=bIs_ok m .none (by omega) sm
   cases h3:batchB l
   ·rw[h3] at k1
    unfold chA at*
    repeat' (first|refine DW_A tabs rfl ?_|refine DW_nil ?_|refine W_A rfl ?_|refine DW_C rfl b1 ?_|refine DW_C rfl b2 ?_|refine DW_C rfl k1 ?_|refine DW_C rfl k2 ?_|refine DW_C rfl kl ?_|refine W_draw (id:=14) mixed [0,1,2,3,7,8,4,5,6,9,10,11,12,13,14] [.P,.P,.P,.P,.R,.R,.R,.P,.P,.R,.R,.R,.P,.P,.P] rfl rfl (by kernel_rfl) ?_|refine W_draw (id:=15) mixed [0,1,2,3,4,5,6,7,8,9,10,11,12,13,14] [.P,.P,.P,.P,.P,.P,.P,.P,.P,.P,.P,.P,.P,.P,.P] rfl rfl (by kernel_rfl) ?_|refine W_draw mixed [0,1,2,3,4,5,6,7,8,9,10,11,12,13,14,15,16,17,18] [.P,.P,.P,.P,.P,.P,.P,.P,.P,.P,.P,.P,.P,.P,.P,.P,.P,.P,.P] rfl rfl (by kernel_rfl) ?_)
    exact⟨rfl,_,rfl,_,rfl,SubC.of_closed closed_bool⟩
   ·rw[h3] at k1
    cases h4:batchB m
    ·rw[h4] at k2
     unfold chA at*
     repeat' (first|refine DW_A tabs rfl ?_|refine DW_nil ?_|refine W_A rfl ?_|refine DW_C rfl b1 ?_|refine DW_C rfl b2 ?_|refine DW_C rfl k1 ?_|refine DW_C rfl k2 ?_|refine DW_C rfl kl ?_|refine W_draw (id:=14) mixed [0,1,2,3,7,8,4,5,6,9,10,11,12,13,14] [.P,.P,.P,.P,.R,.R,.R,.P,.P,.R,.R,.R,.P,.P,.P] rfl rfl (by kernel_rfl) ?_|refine W_draw (id:=15) mixed [0,1,2,3,4,5,6,7,8,9,10,11,12,13,14] [.P,.P,.P,.P,.P,.P,.P,.P,.P,.P,.P,.P,.P,.P,.P] rfl rfl (by kernel_rfl) ?_|refine W_draw mixed [0,1,2,3,4,5,6,7,8,9,10,11,12,13,14,15,16,17,18] [.P,.P,.P,.P,.P,.P,.P,.P,.P,.P,.P,.P,.P,.P,.P,.P,.P,.P,.P] rfl rfl (by kernel_rfl) ?_)
     exact⟨rfl,_,rfl,_,rfl,SubC.of_closed closed_bool⟩
    ·rw[h4] at k2
     have sa:∀c,c∈l++m→shortCh c:=fun c hc=>by
      rcases List.mem_append.1 hc with h|h
      ·exact sl c h
      ·exact sm c h
     have kj:=bJoin_ok l m (by omega) (by omega) sa
     obtain⟨_,a2,a3,a4⟩:=batch_rise h3
     obtain⟨_,c2,c3,c4⟩:=batch_rise h4
     obtain⟨j1,j2,j3⟩:=join_len a4 c4
     have heven:∀c,c∈l++m→mayB c=true:=fun c hc=>by
      rcases List.mem_append.1 hc with h|h
      ·exact a3 c h
      ·exact c3 c h
     have wl:IntKind.wrap .i64 ((l.length:Int)+(m.length:Int))=((l.length+m.length:Nat):Int):=(Go.Ab.wrap_small (by omega) (by omega)).trans (by omega)
     rw[normC_even heven] at kj
     cases h5:batchB (sortC (l++m))
     ·have hf:=join_few h3 h4 h5
      rw[h5,if_neg (by simp)] at kj
      have d1:(!decide ((1:Int)=0))=true:=rfl
      have d2:decide ((20:Int) < ((l.length+m.length:Nat):Int))=true:=decide_eq_true (by omega)
      unfold nmA at kj
      dsimp only at kj
      unfold chA at*
      repeat' (first|refine DW_VB tabs rfl (by first|exact d1|exact d2) ?_|refine DW_VI tabs rfl (by first|exact la|exact lm|exact wl) ?_|refine DW_A tabs rfl ?_|refine DW_nil ?_|refine W_A rfl ?_|refine DW_C rfl b1 ?_|refine DW_C rfl b2 ?_|refine DW_C rfl k1 ?_|refine DW_C rfl k2 ?_|refine DW_C rfl kl ?_|refine DW_C rfl kj ?_|refine W_draw (id:=14) mixed [0,1,2,3,7,8,4,5,6,9,10,11,12,13,14] [.P,.P,.P,.P,.R,.R,.R,.P,.P,.R,.R,.R,.P,.P,.P] rfl rfl (by kernel_rfl) ?_|refine W_draw (id:=15) mixed [0,1,2,3,4,5,6,7,8,9,10,11,12,13,14] [.P,.P,.P,.P,.P,.P,.P,.P,.P,.P,.P,.P,.P,.P,.P] rfl rfl (by kernel_rfl) ?_|refine W_draw mixed [0,1,2,3,4,5,6,7,8,9,10,11,12,13,14,15,16,17,18] [.P,.P,.P,.P,.P,.P,.P,.P,.P,.P,.P,.P,.P,.P,.P,.P,.P,.P,.P] rfl rfl (by kernel_rfl) ?_)
      exact⟨rfl,_,rfl,_,rfl,SubC.of_closed closed_bool⟩
     ·rw[h5,if_pos rfl] at kj
      have hmem:=fun y=>join_in (y:=y) a4 c4
      have hshort:∀c,c∈sortC (l++m)→c.meta_.ch.length < 1000000:=fun c hc=>(sa c (sortC_mem hc)).2
      generalize sortC (l++m)=J at*
      have lJ:=len_map Ch.av J
      have d1:(!decide ((0:Int)=0))=false:=rfl
      unfold nmA at kj
      dsimp only at kj
      unfold chA at*
      repeat' (first|refine DW_VB tabs rfl d1 ?_|refine DW_VI tabs rfl (by first|exact la|exact lm|exact wl) ?_|refine DW_A tabs rfl ?_|refine DW_nil ?_|refine W_A rfl ?_|refine DW_C rfl b1 ?_|refine DW_C rfl b2 ?_|refine DW_C rfl k1 ?_|refine DW_C rfl k2 ?_|refine DW_C rfl kl ?_|refine DW_C rfl kj ?_|refine W_draw (id:=14) mixed [0,1,2,3,7,8,4,5,6,9,10,11,12,13,14] [.P,.P,.P,.P,.R,.R,.R,.P,.P,.R,.R,.R,.P,.P,.P] rfl rfl (by kernel_rfl) ?_|refine W_draw (id:=15) mixed [0,1,2,3,4,5,6,7,8,9,10,11,12,13,14] [.P,.P,.P,.P,.P,.P,.P,.P,.P,.P,.P,.P,.P,.P,.P] rfl rfl (by kernel_rfl) ?_|refine W_draw mixed [0,1,2,3,4,5,6,7,8,9,10,11,12,13,14,15,16,17,18] [.P,.P,.P,.P,.P,.P,.P,.P,.P,.P,.P,.P,.P,.P,.P,.P,.P,.P,.P] rfl rfl (by kernel_rfl) ?_)
      refine W_count J.length (fun i f N=>N=⟨0,[]⟩∧f=blF l m J i) (Nat.zero_le _) ⟨rfl,rfl⟩ (Joint.le ?_ (Mem.le_refl _)) ?_
      ·unfold blF chA
       repeat (refine AF.le_cons rfl ?_)
       exact AF.le_nil rfl
      rintro i f N hi ⟨rfl,rfl⟩
      unfold blF chA
      by_cases g1:i < J.length
      ·have d2:decide ((i:Int) < (J.length:Int))=true:=decide_eq_true (by omega)
       have hy:J[i]? =some J[i]:=List.getElem?_eq_getElem g1
       have hym:=List.getElem_mem g1
       have fi:=wrap_succ (i:=i) (by omega)
       generalize J[i]=y at hy hym
       have hin:=hmem y hym
       have hys:=hshort y hym
       repeat' (first|refine DW_VB tabs rfl d2 ?_|refine DW_VI tabs rfl lJ ?_|refine DW_A tabs rfl ?_|refine DW_nil ?_|refine W_A rfl ?_|refine W_draw (id:=14) mixed [0,1,2,3,7,8,4,5,6,9,10,11,12,13,14] [.P,.P,.P,.P,.R,.R,.R,.P,.P,.R,.R,.R,.P,.P,.P] rfl rfl (by kernel_rfl) ?_|refine W_draw (id:=15) mixed [0,1,2,3,4,5,6,7,8,9,10,11,12,13,14] [.P,.P,.P,.P,.P,.P,.P,.P,.P,.P,.P,.P,.P,.P,.P] rfl rfl (by kernel_rfl) ?_|refine W_draw mixed [0,1,2,3,4,5,6,7,8,9,10,11,12,13,14,15,16,17,18] [.P,.P,.P,.P,.P,.P,.P,.P,.P,.P,.P,.P,.P,.P,.P,.P,.P,.P,.P] rfl rfl (by kernel_rfl) ?_)
       refine W_count m.length (fun k f N=>N=⟨0,[]⟩∧f=blF2 l m J i (inB m y k) (ovB m y k) k) (Nat.zero_le _) ⟨rfl,rfl⟩ (Joint.le ?_ (Mem.le_refl _)) ?_
       ·unfold blF2 chA inB ovB
        repeat (refine AF.le_cons rfl ?_)
        exact AF.le_nil rfl
       rintro k f N hk ⟨rfl,rfl⟩
       unfold blF2 chA
       by_cases g2:k < m.length
       ·have d3:decide ((k:Int) < (m.length:Int))=true:=decide_eq_true (by omega)
        have hx:m[k]? =some m[k]:=List.getElem?_eq_getElem g2
        have fk:=wrap_succ (i:=k) (by omega)
        have hxs:=(sm _ (List.getElem_mem g2)).2
        generalize m[k]=x at hx hxs
        have ko:=ovB_succ (y:=y) hx
        have kn:=inB_succ (y:=y) hx
        have ks:=chSame_ok [x] [y] .none .none (by simp) (by simp) (fun c hc=>by simp at hc;subst hc;exact hxs) (fun c hc=>by simp at hc;subst hc;exact hys)
        rw[one_eq] at ks
        unfold chA at ks
        generalize inB m y k=p at*
        generalize ovB m y k=q at*
        cases p<;>cases q
        all_goals
         repeat' (first|refine DW_VB tabs rfl d3 ?_|refine DW_VI tabs rfl (by first|exact lm|exact fk|exact fi) ?_|refine DW_A tabs rfl ?_|refine DW_nil ?_|refine W_A rfl ?_|refine DW_C rfl ks ?_|refine DW_ix tabOK rfl (ixN hx) ?_|refine DW_ix tabOK rfl (ixN hy) ?_|refine DW_slc tabOK rfl (sl_one hx) ?_|refine DW_slc tabOK rfl (sl_one hy) ?_|refine W_draw (id:=14) mixed [0,1,2,3,7,8,4,5,6,9,10,11,12,13,14] [.P,.P,.P,.P,.R,.R,.R,.P,.P,.R,.R,.R,.P,.P,.P] rfl rfl (by kernel_rfl) ?_|refine W_draw (id:=15) mixed [0,1,2,3,4,5,6,7,8,9,10,11,12,13,14] [.P,.P,.P,.P,.P,.P,.P,.P,.P,.P,.P,.P,.P,.P,.P] rfl rfl (by kernel_rfl) ?_|refine W_draw mixed [0,1,2,3,4,5,6,7,8,9,10,11,12,13,14,15,16,17,18] [.P,.P,.P,.P,.P,.P,.P,.P,.P,.P,.P,.P,.P,.P,.P,.P,.P,.P,.P] rfl rfl (by kernel_rfl) ?_)
         refine⟨g2,blF2 l m J i _ _ (k+1),_,⟨rfl,rfl⟩,Joint.le ?_ (Mem.le_refl _)⟩
         unfold blF2 chA
         simp only[ko,kn,Bool.false_or,Bool.true_or]
         repeat (refine AF.le_cons rfl ?_)
         exact AF.le_nil rfl
       ·have d3:decide ((k:Int) < (m.length:Int))=false:=decide_eq_false (by omega)
        obtain rfl:k=m.length:=by omega
        repeat' (first|refine DW_VB tabs rfl d3 ?_|refine DW_VI tabs rfl lm ?_|refine DW_A tabs rfl ?_|refine DW_nil ?_|refine W_A rfl ?_|refine W_draw (id:=14) mixed [0,1,2,3,7,8,4,5,6,9,10,11,12,13,14] [.P,.P,.P,.P,.R,.R,.R,.P,.P,.R,.R,.R,.P,.P,.P] rfl rfl (by kernel_rfl) ?_|refine W_draw (id:=15) mixed [0,1,2,3,4,5,6,7,8,9,10,11,12,13,14] [.P,.P,.P,.P,.P,.P,.P,.P,.P,.P,.P,.P,.P,.P,.P] rfl rfl (by kernel_rfl) ?_|refine W_draw mixed [0,1,2,3,4,5,6,7,8,9,10,11,12,13,14,15,16,17,18] [.P,.P,.P,.P,.P,.P,.P,.P,.P,.P,.P,.P,.P,.P,.P,.P,.P,.P,.P] rfl rfl (by kernel_rfl) ?_)
        generalize hq:ovB m y m.length=q at*
        generalize hp:inB m y m.length=p at*
        refine W_count l.length (fun k f N=>N=⟨0,[]⟩∧f=blF3 l m J i (p||(!q&&inB l y k)) q k) (Nat.zero_le _) ⟨rfl,rfl⟩ (Joint.le ?_ (Mem.le_refl _)) ?_
        ·unfold blF3 chA
         rw[show (p||(!q&&inB l y 0))=p from by simp[inB]]
         repeat (refine AF.le_cons rfl ?_)
         exact AF.le_nil rfl
        rintro k f N hk2 ⟨rfl,rfl⟩
        unfold blF3 chA
        by_cases g3:k < l.length
        ·have d4:decide ((k:Int) < (l.length:Int))=true:=decide_eq_true (by omega)
         have hx:l[k]? =some l[k]:=List.getElem?_eq_getElem g3
         have fk:=wrap_succ (i:=k) (by omega)
         have hxs:=(sl _ (List.getElem_mem g3)).2
         generalize l[k]=x at hx hxs
         have kn:=inB_succ (y:=y) hx
         have ks:=chSame_ok [x] [y] .none .none (by simp) (by simp) (fun c hc=>by simp at hc;subst hc;exact hxs) (fun c hc=>by simp at hc;subst hc;exact hys)
         rw[one_eq] at ks
         unfold chA at ks
         generalize inB l y k=r at*
         clear hin hp hq
         cases p<;>cases q<;>cases r
         all_goals
          repeat' (first|refine DW_VB tabs rfl d4 ?_|refine DW_VI tabs rfl (by first|exact la|exact fk|exact fi) ?_|refine DW_A tabs rfl ?_|refine DW_nil ?_|refine W_A rfl ?_|refine DW_C rfl ks ?_|refine DW_ix tabOK rfl (ixN hx) ?_|refine DW_ix tabOK rfl (ixN hy) ?_|refine DW_slc tabOK rfl (sl_one hx) ?_|refine DW_slc tabOK rfl (sl_one hy) ?_|refine W_draw (id:=14) mixed [0,1,2,3,7,8,4,5,6,9,10,11,12,13,14] [.P,.P,.P,.P,.R,.R,.R,.P,.P,.R,.R,.R,.P,.P,.P] rfl rfl (by kernel_rfl) ?_|refine W_draw (id:=15) mixed [0,1,2,3,4,5,6,7,8,9,10,11,12,13,14] [.P,.P,.P,.P,.P,.P,.P,.P,.P,.P,.P,.P,.P,.P,.P] rfl rfl (by kernel_rfl) ?_|refine W_draw mixed [0,1,2,3,4,5,6,7,8,9,10,11,12,13,14,15,16,17,18] [.P,.P,.P,.P,.P,.P,.P,.P,.P,.P,.P,.P,.P,.P,.P,.P,.P,.P,.P] rfl rfl (by kernel_rfl) ?_)
          refine⟨g3,blF3 l m J i _ _ (k+1),_,⟨rfl,rfl⟩,Joint.le ?_ (Mem.le_refl _)⟩
          unfold blF3 chA
          simp only[kn,Bool.false_or,Bool.true_or,Bool.not_true,Bool.not_false,Bool.false_and,Bool.true_and]
          repeat (refine AF.le_cons rfl ?_)
          exact AF.le_nil rfl
        ·have d4:decide ((k:Int) < (l.length:Int))=false:=decide_eq_false (by omega)
         obtain rfl:k=l.length:=by omega
         rw[hin]
         repeat' (first|refine DW_VB tabs rfl d4 ?_|refine DW_VI tabs rfl (by first|exact la|exact fi) ?_|refine DW_A tabs rfl ?_|refine DW_nil ?_|refine W_A rfl ?_|refine W_draw (id:=14) mixed [0,1,2,3,7,8,4,5,6,9,10,11,12,13,14] [.P,.P,.P,.P,.R,.R,.R,.P,.P,.R,.R,.R,.P,.P,.P] rfl rfl (by kernel_rfl) ?_|refine W_draw (id:=15) mixed [0,1,2,3,4,5,6,7,8,9,10,11,12,13,14] [.P,.P,.P,.P,.P,.P,.P,.P,.P,.P,.P,.P,.P,.P,.P] rfl rfl (by kernel_rfl) ?_|refine W_draw mixed [0,1,2,3,4,5,6,7,8,9,10,11,12,13,14,15,16,17,18] [.P,.P,.P,.P,.P,.P,.P,.P,.P,.P,.P,.P,.P,.P,.P,.P,.P,.P,.P] rfl rfl (by kernel_rfl) ?_)
         refine⟨g1,blF l m J (i+1),_,⟨rfl,rfl⟩,Joint.le ?_ (Mem.le_refl _)⟩
         unfold blF chA
         repeat (refine AF.le_cons rfl ?_)
         exact AF.le_nil rfl
      ·have d2:decide ((i:Int) < (J.length:Int))=false:=decide_eq_false (by omega)
       have d3:decide ((l.length:Int)≤(J.length:Int))=true:=decide_eq_true (by omega)
       have d4:decide ((m.length:Int)≤(J.length:Int))=true:=decide_eq_true (by omega)
       have d5:decide ((J.length:Int)≤((l.length+m.length:Nat):Int))=true:=decide_eq_true (by omega)
       repeat' (first|refine DW_VB tabs rfl (by first|exact d2|exact d3|exact d4|exact d5) ?_|refine DW_VI tabs rfl (by first|exact la|exact lm|exact lJ|exact wl) ?_|refine DW_A tabs rfl ?_|refine DW_nil ?_|refine W_A rfl ?_|refine DW_C rfl kl ?_|refine W_draw (id:=14) mixed [0,1,2,3,7,8,4,5,6,9,10,11,12,13,14] [.P,.P,.P,.P,.R,.R,.R,.P,.P,.R,.R,.R,.P,.P,.P] rfl rfl (by kernel_rfl) ?_|refine W_draw (id:=15) mixed [0,1,2,3,4,5,6,7,8,9,10,11,12,13,14] [.P,.P,.P,.P,.P,.P,.P,.P,.P,.P,.P,.P,.P,.P,.P] rfl rfl (by kernel_rfl) ?_|refine W_draw mixed [0,1,2,3,4,5,6,7,8,9,10,11,12,13,14,15,16,17,18] [.P,.P,.P,.P,.P,.P,.P,.P,.P,.P,.P,.P,.P,.P,.P,.P,.P,.P,.P] rfl rfl (by kernel_rfl) ?_)
       exact⟨rfl,_,rfl,_,rfl,SubC.of_closed closed_bool⟩
  ·rw[h2] at b2
   unfold chA at*
   repeat' (first|refine DW_A tabs rfl ?_|refine DW_nil ?_|refine W_A rfl ?_|refine DW_C rfl b1 ?_|refine DW_C rfl b2 ?_|refine DW_C rfl kl ?_|refine W_draw (id:=14) mixed [0,1,2,3,7,8,4,5,6,9,10,11,12,13,14] [.P,.P,.P,.P,.R,.R,.R,.P,.P,.R,.R,.R,.P,.P,.P] rfl rfl (by kernel_rfl) ?_|refine W_draw (id:=15) mixed [0,1,2,3,4,5,6,7,8,9,10,11,12,13,14] [.P,.P,.P,.P,.P,.P,.P,.P,.P,.P,.P,.P,.P,.P,.P] rfl rfl (by kernel_rfl) ?_|refine W_draw mixed [0,1,2,3,4,5,6,7,8,9,10,11,12,13,14,15,16,17,18] [.P,.P,.P,.P,.P,.P,.P,.P,.P,.P,.P,.P,.P,.P,.P,.P,.P,.P,.P] rfl rfl (by kernel_rfl) ?_)
   exact⟨rfl,_,rfl,_,rfl,SubC.of_closed closed_bool⟩
 ·rw[h1] at b1
  unfold chA at*
  repeat' (first|refine DW_A tabs rfl ?_|refine DW_nil ?_|refine W_A rfl ?_|refine DW_C rfl b1 ?_|refine DW_C rfl b2 ?_|refine DW_C rfl kl ?_|refine W_draw (id:=14) mixed [0,1,2,3,7,8,4,5,6,9,10,11,12,13,14] [.P,.P,.P,.P,.R,.R,.R,.P,.P,.R,.R,.R,.P,.P,.P] rfl rfl (by kernel_rfl) ?_|refine W_draw (id:=15) mixed [0,1,2,3,4,5,6,7,8,9,10,11,12,13,14] [.P,.P,.P,.P,.P,.P,.P,.P,.P,.P,.P,.P,.P,.P,.P] rfl rfl (by kernel_rfl) ?_|refine W_draw mixed [0,1,2,3,4,5,6,7,8,9,10,11,12,13,14,15,16,17,18] [.P,.P,.P,.P,.P,.P,.P,.P,.P,.P,.P,.P,.P,.P,.P,.P,.P,.P,.P] rfl rfl (by kernel_rfl) ?_)
  exact⟨rfl,_,rfl,_,rfl,SubC.of_closed closed_bool⟩
end Go.Proofs.YtbcaejhhgkcgpaaDoor
