/- Parts of the proof, one behind the other. No further condition. -/
import Derived.Test.YtbcaejhhgkcgpaaDoorK12
import Derived.MapKept
import Derived.Maps.RangeRun
set_option linter.unusedVariables false
set_option linter.unusedSimpArgs false
namespace Go.Proofs.YtbcaejhhgkcgpaaDoor
open Go.Ab
theorem splitOn_none (c:UInt8):∀s:Bytes,(∀b,b∈s→b≠c)→splitOn c s=[s]
 |[],_=>rfl
 |b::l,h=>by
  unfold splitOn
  rw[if_neg (h b (by simp)),splitOn_none c l (fun x hx=>h x (by simp[hx]))]
theorem splitOn_cut (c:UInt8) (r:Bytes):∀s:Bytes,(∀b,b∈s→b≠c)→splitOn c (s++c::r)=s::splitOn c r
 |[],_=>by
  show splitOn c (c::r)=_
  rw[splitOn,if_pos rfl]
 |b::l,h=>by
  show splitOn c (b::(l++c::r))=_
  rw[splitOn,if_neg (h b (by simp)),splitOn_cut c r l (fun x hx=>h x (by simp[hx]))]
structure AtPart (s:Bytes) (out:List Bytes) (frm i:Nat):Prop where
 le:frm≤i
 len:out.length≤frm
 no:∀b,b∈(s.take i).drop frm→b≠47
 eq:splitOn 47 s=out++splitOn 47 (s.drop frm)
theorem drop_split {s:Bytes} {frm i:Nat} {b:UInt8} (h:frm≤i) (hb:s[i]? =some b):s.drop frm=(s.take i).drop frm++b::s.drop (i+1):=by
 have hi:=(List.getElem?_eq_some_iff.1 hb).1
 have h1:s=s.take i++b::s.drop (i+1):=by
  have:=List.take_append_drop i s
  rw[List.drop_eq_getElem_cons hi,(List.getElem?_eq_some_iff.1 hb).2] at this
  exact this.symm
 calc s.drop frm=(s.take i++b::s.drop (i+1)).drop frm:=by rw[←h1]
  _=(s.take i).drop frm++b::s.drop (i+1):=by
   rw[List.drop_append_of_le_length (by simp;omega)]
theorem AtPart.hit {s:Bytes} {out:List Bytes} {frm i:Nat} (h:AtPart s out frm i) (hb:s[i]? =some 47):AtPart s (out++[(s.take i).drop frm]) (i+1) (i+1):=by
 refine⟨Nat.le_refl _,by have:=h.len;have:=h.le;simp;omega,?_,?_⟩
 ·intro b hm
  have:((s.take (i+1)).drop (i+1))=[]:=by simp
  rw[this] at hm
  simp at hm
 ·rw[h.eq,drop_split h.le hb,splitOn_cut 47 _ _ h.no]
  simp
theorem AtPart.done {s:Bytes} {out:List Bytes} {frm:Nat} (h:AtPart s out frm s.length):out++[s.drop frm]=splitOn 47 s:=by
 rw[h.eq,splitOn_none]
 intro b hb
 have:=h.no b
 rw[List.take_length] at this
 exact this hb
end Go.Proofs.YtbcaejhhgkcgpaaDoor
namespace Go.Ab
open Go.RowKit
theorem Joint.freezeS {n0:Nat} {t:List (Nat×AV)} {ds:List ADef} {M:Mem} (i:Nat) {id n cap sz:Nat} {l xs:List AV} (h:AF.get ⟨t,ds⟩ i=.osl id 0 n cap sz) (hM:M.get id=some (.cells l)) (hx:l.take (n*sz)=flat xs) (hn:xs.length=n) (hnl:n*sz≤l.length) (hnc:n≤cap) (hs:∀x,x∈xs→x.cells.length=sz):
  Joint n0 ⟨t,ds⟩ M ⟨(i,.sl sz xs .none)::t,ds⟩ (M.drop id):=by
 intro μ0 μ F w0 w m a hnn he hg hr
 obtain⟨b,c,ty,o1,o2,o3,o4,o5⟩:=hg.obj id l hM
 have hid:id < M.next:=(hg.dom id).1 (by rw[o1];simp)
 obtain⟨μ2,k1,k2,k3,k4⟩:=gam_kill hg hid
 have hv:=hr.tmps i
 rw[h] at hv
 obtain⟨b',hb',hv'⟩:=gam_osl hg hM hv
 rw[o1] at hb'
 cases hb'
 refine⟨μ2,he.trans k3,k4 _ rfl (fun j=>Mem.get_drop M id j),hr.size,?_,hr.defs.evo k3,fun p hp=>(hr.kept p hp).evo k3⟩
 intro j
 by_cases e:j=i
 ·subst e
  have:AF.get ⟨(j,.sl sz xs .none)::t,ds⟩ j=.sl sz xs .none:=by simp[AF.get,lookup]
  rw[this,hv',←hn]
  have key:∀(p:Nat) (y:AV),(flat xs)[p]? =some y→l[p]? =some y∧p < l.length:=by
   intro p y hp
   have hlt:=(List.getElem?_eq_some_iff.1 hp).1
   rw[flat_length hs,hn] at hlt
   rw[←hx,List.getElem?_take,if_pos hlt] at hp
   exact⟨hp,by omega⟩
  have hcell:∀p,p < l.length→c[p]? =some (c.getD p undef):=by
   intro p hp
   have:p < c.size:=by omega
   simp[Array.getD,this]
  refine rep_sl (b:=b) (o:=0) (vals:=fun p=>c.getD p undef) hs (by omega) (fun _=>rfl) ?_ trivial
  intro p y hp
  obtain⟨h2,h3⟩:=key p y hp
  refine⟨o4 p _ (hcell p h3),?_,⟨hg.frm b _ ⟨id,.inl o1⟩,?_⟩,(o5 p _ _ h2 (hcell p h3)).evo k3⟩
  ·rw[Nat.zero_add,cell_mk o2]
   exact hcell p h3
  ·intro ho
   obtain⟨i',hi',h4|⟨e',g',h4,_⟩⟩:=k2 b _ ho
   ·exact hi' (hg.inj i' id b (.inl h4) (.inl o1))
   ·exact hi' (hg.inj i' id b (.inr ⟨e',g',h4⟩) (.inl o1))
 ·have:AF.get ⟨(i,.sl sz xs .none)::t,ds⟩ j=AF.get ⟨t,ds⟩ j:=by simp[AF.get,lookup,e]
  rw[this]
  exact (hr.tmps j).evo k3
end Go.Ab
namespace Go.Ab
open Go.RowKit
theorem gam_turnR {μ:Mu} {F:Frm} {M:Mem} {w:World} (h:Gam μ F M w) {id b:Nat} {o:Obj} {vs:Array Value} {t:List (Nat×AV)} (hM:M.get id=some (.raw none o vs t)) (hid:μ id=some (.at b)) (o':Obj) (vs':Array Value) (t':List (Nat×AV))
  (hno:∀c ty fr,o≠.cells c ty fr) (hr:∀i,Rep μ F w ((lookup t' i).getD .top) (vs'.getD i undef)):
  w.heap[b]? =some o∧Evo w μ (w.putObj b o') μ∧Gam μ F (M.set id (.raw none o' vs' t')) (w.putObj b o'):=by
 obtain⟨k2,hev,hG⟩:=gam_turn h hM hid o' hno
 refine⟨k2,hev,hG.dom,?_,?_,hG.inj,hG.frm,hG.fit,?_⟩
 ·intro i l hl
  rw[Mem.get_set] at hl
  split at hl
  ·cases hl
  ·rename_i e
   exact hG.obj i l (by rw[Mem.get_set,if_neg e];exact hl)
 ·intro i g hl
  rw[Mem.get_set] at hl
  split at hl
  ·cases hl
  ·rename_i e
   exact hG.spare i g (by rw[Mem.get_set,if_neg e];exact hl)
 ·intro i gg o2 vs2 t2 hl
  rw[Mem.get_set] at hl
  split at hl
  ·rename_i e
   cases hl
   subst e
   have hlt:b < w.heap.size:=(Array.getElem?_eq_some_iff.1 k2).1
   exact⟨b,hid,World.putObj_heap_same hlt,fun j=>(hr j).evo hev⟩
  ·rename_i e
   exact hG.raw i gg o2 vs2 t2 (by rw[Mem.get_set,if_neg e];exact hl)
def entsF (n:Nat):List (List UInt8×Value)→List MapEntry
 |[]=>[]
 |(k,v)::r=>{key:=.string ⟨k.toArray⟩,val:=v,born:=n}::entsF (n+1) r
def enumT (n:Nat):List AV→List (Nat×AV)
 |[]=>[]
 |x::r=>(n,x)::enumT (n+1) r
def upd {α:Type}:List (List UInt8×α)→List UInt8→α→List (List UInt8×α)
 |[],k,x=>[(k,x)]
 |(k',y)::r,k,x=>if k'=k then (k',x)::r else (k',y)::upd r k x
def mapA (ps:List (List UInt8×Value)) (l:List (List UInt8×AV)):AObj:=.raw none (.map (entsF 0 ps).toArray ps.length) (ps.map (·.2)).toArray (enumT 0 (l.map (·.2)))
def IsMap (M:Mem) (id:Nat) (l:List (List UInt8×AV)):Prop:=∃ps,ps.map (·.1)=l.map (·.1)∧M.get id=some (mapA ps l)
theorem lookup_enum:∀(xs:List AV) (n i:Nat),lookup (enumT n xs) (n+i)=xs[i]?
 |[],n,i=>rfl
 |x::r,n,0=>by simp[enumT,lookup]
 |x::r,n,i+1=>by
  have e:n+(i+1)=(n+1)+i:=by omega
  rw[enumT,lookup,if_neg (by omega),e,lookup_enum r (n+1) i]
  rfl
theorem lookup_enum0 (xs:List AV) (i:Nat):lookup (enumT 0 xs) i=xs[i]? :=by
 have:=lookup_enum xs 0 i
 rwa [Nat.zero_add] at this
theorem entsF_get:∀(ps:List (List UInt8×Value)) (n i:Nat),(entsF n ps)[i]? =(ps[i]?).map fun p=>{key:=.string ⟨p.1.toArray⟩,val:=p.2,born:=n+i}
 |[],n,i=>rfl
 |(k,v)::r,n,0=>rfl
 |(k,v)::r,n,i+1=>by
  have:=entsF_get r (n+1) i
  simp only[entsF,List.getElem?_cons_succ]
  rw[this]
  congr 1
  funext p
  rw[Nat.add_assoc,Nat.add_comm 1 i]
theorem entsF_mem {ps:List (List UInt8×Value)} {n:Nat} {e:MapEntry} (h:e∈entsF n ps):∃i p,ps[i]? =some p∧e={key:=.string ⟨p.1.toArray⟩,val:=p.2,born:=n+i}:=by
 obtain⟨i,hi⟩:=List.mem_iff_getElem?.1 h
 rw[entsF_get] at hi
 obtain⟨p,hp,rfl⟩:=Option.map_eq_some_iff.1 hi
 exact⟨i,p,hp,rfl⟩
theorem entsF_born:∀(ps:List (List UInt8×Value)) (n:Nat),(entsF n ps).map (·.born)=List.range' n ps.length
 |[],n=>rfl
 |(k,v)::r,n=>by
  simp only[entsF,List.map_cons,List.length_cons,List.range'_succ]
  rw[entsF_born r (n+1)]
theorem entsF_snoc:∀(ps:List (List UInt8×Value)) (n:Nat) (k:List UInt8) (v:Value),entsF n (ps++[(k,v)])=entsF n ps++[{key:=.string ⟨k.toArray⟩,val:=v,born:=n+ps.length}]
 |[],n,k,v=>rfl
 |(k',v')::r,n,k,v=>by
  simp only[List.cons_append,entsF,List.length_cons]
  rw[entsF_snoc r (n+1) k v]
  simp only[Nat.add_assoc,Nat.add_comm 1]
def at? {α:Type}:List (List UInt8×α)→List UInt8→Option (Nat×α)
 |[],_=>none
 |(k',y)::r,k=>if k'=k then some (0,y) else (at? r k).map fun p=>(p.1+1,p.2)
theorem bytes_eq (a b:List UInt8):((⟨a.toArray⟩:ByteArray)==⟨b.toArray⟩)=decide (b=a):=by
 by_cases h:b=a
 ·subst h
  have:=(MapKept.bytes_beq (⟨b.toArray⟩:ByteArray) ⟨b.toArray⟩).2 rfl
  rw[this]
  simp
 ·have:¬((⟨a.toArray⟩:ByteArray)==⟨b.toArray⟩)=true:=by
   intro e
   have e2:=(MapKept.bytes_beq _ _).1 e
   injection e2 with e3
   exact h (by simpa using e3.symm)
  rw[Bool.not_eq_true] at this
  rw[this]
  simp[h]
theorem findNow_ents (k:List UInt8):∀(ps:List (List UInt8×Value)) (n i:Nat),Instr.findNow .string (.string ⟨k.toArray⟩) (entsF n ps) i=some ((at? ps k).map fun p=>(i+p.1,p.2))
 |[],n,i=>rfl
 |(k',v)::r,n,i=>by
  simp only[entsF,Instr.findNow,Instr.sameNow,bytes_eq]
  by_cases h:k'=k
  ·simp[h,at?]
  ·simp only[h,decide_false,at?,if_false]
   rw[findNow_ents k r (n+1) (i+1)]
   cases at? r k with
   |none=>rfl
   |some p=>simp[Nat.add_assoc,Nat.add_comm 1]
theorem upd_none {α:Type}:∀(l:List (List UInt8×α)) (k:List UInt8) (x:α),at? l k=none→upd l k x=l++[(k,x)]
 |[],k,x,_=>rfl
 |(k',y)::r,k,x,h=>by
  unfold at? at h
  split at h
  ·cases h
  ·rename_i e
   rw[upd,if_neg e,upd_none r k x (by simpa using h)]
   rfl
theorem upd_some {α:Type}:∀(l:List (List UInt8×α)) (k:List UInt8) (x:α) (i:Nat) (y:α),at? l k=some (i,y)→l[i]? =some (k,y)∧upd l k x=l.set i (k,x)
 |[],k,x,i,y,h=>by cases h
 |(k',y')::r,k,x,i,y,h=>by
  unfold at? at h
  split at h
  ·rename_i e
   cases h
   subst e
   exact⟨rfl,by simp[upd]⟩
  ·rename_i e
   obtain⟨⟨j,z⟩,h1,h2⟩:=Option.map_eq_some_iff.1 h
   cases h2
   obtain⟨h3,h4⟩:=upd_some r k x j z h1
   exact⟨by simpa using h3,by rw[upd,if_neg e,h4];rfl⟩
theorem upd_keys {α β:Type}:∀(l:List (List UInt8×α)) (m:List (List UInt8×β)) (k:List UInt8) (x:α) (y:β),l.map (·.1)=m.map (·.1)→(upd l k x).map (·.1)=(upd m k y).map (·.1)
 |[],[],k,x,y,_=>rfl
 |[],_::_,k,x,y,h=>by simp at h
 |_::_,[],k,x,y,h=>by simp at h
 |(a,b)::l,(c,d)::m,k,x,y,h=>by
  simp only[List.map_cons,List.cons.injEq] at h
  obtain⟨h1,h2⟩:=h
  subst h1
  unfold upd
  split
  ·simp[h2]
  ·simp[upd_keys l m k x y h2]
theorem at_keys {α β:Type}:∀(l:List (List UInt8×α)) (m:List (List UInt8×β)) (k:List UInt8),l.map (·.1)=m.map (·.1)→(at? l k).map (·.1)=(at? m k).map (·.1)
 |[],[],k,_=>rfl
 |[],_::_,k,h=>by simp at h
 |_::_,[],k,h=>by simp at h
 |(a,b)::l,(c,d)::m,k,h=>by
  simp only[List.map_cons,List.cons.injEq] at h
  obtain⟨h1,h2⟩:=h
  subst h1
  unfold at?
  split
  ·rfl
  ·have:=at_keys l m k h2
   simp only[Option.map_map]
   have e:∀{γ:Type} (o:Option (Nat×γ)),Option.map ((fun p=>p.1)∘fun p:Nat×γ=>(p.1+1,p.2)) o=(o.map (·.1)).map (·+1):=by
    intro γ o;cases o<;>rfl
   rw[e,e,this]
theorem entsF_set:∀(ps:List (List UInt8×Value)) (n i:Nat) (k:List UInt8) (y v:Value) (f:MapEntry→MapEntry),ps[i]? =some (k,y)→(∀e,e.key=.string ⟨k.toArray⟩→f e={e with val:=v})→(entsF n ps).modify i f=entsF n (ps.set i (k,v))
 |[],n,i,k,y,v,f,h,_=>by simp at h
 |(k',y')::r,n,0,k,y,v,f,h,hf=>by
  simp only[List.getElem?_cons_zero,Option.some.injEq,Prod.mk.injEq] at h
  obtain⟨rfl,rfl⟩:=h
  simp only[entsF,List.modify_zero_cons,List.set_cons_zero]
  rw[hf _ rfl]
 |(k',y')::r,n,i+1,k,y,v,f,h,hf=>by
  simp only[entsF,List.modify_succ_cons,List.set_cons_succ]
  rw[entsF_set r (n+1) i k y v f (by simpa using h) hf]
theorem run_mapUpdate {P:Program} {w:World} {mt kt et:TypeId} (ht:P.underlying mt=some (.map kt et)) (hk:P.underlying kt=some .string) {b:Nat} {ps:List (List UInt8×Value)} (hb:w.heap[b]? =some (.map (entsF 0 ps).toArray ps.length)) (k:List UInt8) (v:Value):
  (Instr.mapUpdate mt (.map (some b)) (.string ⟨k.toArray⟩) v).run P w=.ok () (w.putObj b (.map (entsF 0 (upd ps k v)).toArray (upd ps k v).length)):=by
 have hf:=MapKept.run_findKey (P:=P) (w:=w) hk (findNow_ents k ps 0 0)
 have hck:(Instr.checkKey false 10000 kt (.string ⟨k.toArray⟩)).run P w=.ok () w:=MapKept.run_checkKey (n:=9999) hk (by trivial) false
 cases ha:at? ps k with
 |none=>
  rw[ha] at hf
  have e:=upd_none ps k v ha
  rw[e,entsF_snoc]
  have hset:=fun o=>MapKept.run_setObj_map (P:=P) (w:=w) o hb
  simp[Instr.mapUpdate,run_underlying ht,MapKept.run_getObj_map hb,hck,hf,Result.andThen,hset,World.putObj]
 |some p=>
  obtain⟨i,y⟩:=p
  rw[ha] at hf
  obtain⟨h1,h2⟩:=upd_some ps k v i y ha
  have hg:(entsF 0 ps).toArray[i]? =some {key:=.string ⟨k.toArray⟩,val:=y,born:=0+i}:=by
   rw[List.getElem?_toArray,entsF_get,h1]
   rfl
  have hsame:(Instr.keyThatStays (.string ⟨k.toArray⟩) (.string ⟨k.toArray⟩)).run P w=.ok (.string ⟨k.toArray⟩) w:=by
   have:Instr.sameBits 10000 (.string ⟨k.toArray⟩) (.string ⟨k.toArray⟩)=true:=by
    simp[Instr.sameBits,bytes_eq]
   simp[Instr.keyThatStays,this,Sem.run]
  have hset:=fun o=>MapKept.run_setObj_map (P:=P) (w:=w) o hb
  have e:((entsF 0 ps).modify i fun e=>{key:=.string ⟨k.toArray⟩,val:=v,born:=e.born})=entsF 0 (ps.set i (k,v)):=entsF_set ps 0 i k y v _ h1 (fun e he=>by rw[←he])
  have hg2:(entsF 0 ps)[i]? =some {key:=.string ⟨k.toArray⟩,val:=y,born:=0+i}:=by simpa using hg
  have hf':(Instr.findKey kt (.string ⟨k.toArray⟩) (entsF 0 ps)).run P w=.ok (some (i,y)) w:=by simpa using hf
  rw[h2]
  simp[Instr.mapUpdate,run_underlying ht,MapKept.run_getObj_map hb,hck,hf',Result.andThen,hg2,hsame,hset,World.putObj,e]
theorem rep_map_inv {μ:Mu} {F:Frm} {w:World} {id b:Nat} {v:Value} (h:Rep μ F w (.map id) v) (hb:μ id=some (.at b)):v=.map (some b):=by
 cases h with
 |map _ _ _ _ hv=>exact hv b hb
theorem rep_ptr_inv {μ:Mu} {F:Frm} {w:World} {id off b:Nat} {v:Value} (h:Rep μ F w (.ptr id off) v) (hb:μ id=some (.at b)):v=.pointer (some ⟨b,off,none⟩):=by
 cases h with
 |ptr _ _ _ _ _ hv=>exact hv b hb
theorem opE_makeMap {P:Program} {mt:TypeId} {ty:TypeId} {ρ:Operand→AV} {M:Mem}:OpE P (.makeMap mt none) ty ρ M (.map M.next) (M.push (mapA [] [])):=by
 intro μ F w ρc o hg ho ht hr
 have hb:=below_push w (.map #[] 0)
 have hnew:({w with heap:=w.heap.push (.map #[] 0)}:World).heap[w.heap.size]? =some (.map #[] 0):=by simp
 obtain⟨he,hG⟩:=gam_pushraw hg hb (vs:=#[]) (t:=[]) (Nat.le_refl _) hnew (fun i=>.top _)
 refine⟨_,_,.map (some w.heap.size),_,?_,.inl rfl,he,hG,?_⟩
 ·simp[execOp,ho,Instr.makeMap,Result.andThen]
 ·exact .map _ _ rfl (by simp[Mu.put]) (fun b hb=>by simp[Mu.put] at hb;subst hb;rfl)
theorem opE_makeMap1 {P:Program} {mt kt et:TypeId} (hmt:P.underlying mt=some (.map kt et)) {ty:TypeId} {y:Operand} {ik:IntKind} {n:Int} {ρ:Operand→AV} (hy:ρ y=.int ik n) {M:Mem}:OpE P (.makeMap mt (some y)) ty ρ M (.map M.next) (M.push (mapA [] [])):=by
 intro μ F w ρc o hg ho ht hr
 have hb:=below_push w (.map #[] 0)
 have hnew:({w with heap:=w.heap.push (.map #[] 0)}:World).heap[w.heap.size]? =some (.map #[] 0):=by simp
 obtain⟨he,hG⟩:=gam_pushraw hg hb (vs:=#[]) (t:=[]) (Nat.le_refl _) hnew (fun i=>.top _)
 have h1:=hr y (by simp[Op.operands])
 rw[hy] at h1
 have h2:ρc y=.int ik n:=by
  generalize ρc y=v at h1
  cases h1
  rfl
 refine⟨_,_,.map (some w.heap.size),_,?_,.inl rfl,he,hG,?_⟩
 ·simp[execOp,ho,Instr.makeMap,Result.andThen,h2,run_underlying hmt,asInt,asIntOf]
 ·exact .map _ _ rfl (by simp[Mu.put]) (fun b hb=>by simp[Mu.put] at hb;subst hb;rfl)
theorem opG_mapUpdate {P:Program} {o:Oper} {mt kt et:TypeId} (hmt:P.underlying mt=some (.map kt et)) (hkt:P.underlying kt=some .string) {m k x:Operand} (ho:o.op=.mapUpdate mt m k x) {ρ:Operand→AV} {M:Mem} {id:Nat} {l:List (List UInt8×AV)} {kk:List UInt8}
  (hm:ρ m=.map id) (hk:ρ k=.str kk) (hM:IsMap M id l) {Kp:AV→Mem→Prop}:
  OpG P o ρ M (fun u M'=>u=.top∧∃ps',ps'.map (·.1)=(upd l kk (ρ x)).map (·.1)∧M'=M.set id (mapA ps' (upd l kk (ρ x)))) Kp:=by
 obtain⟨ps,hps,hM⟩:=hM
 intro μ F w a hg hr next Q' g1 g2
 have r1:=hr m (by simp[ho,Op.operands])
 have r2:=hr k (by simp[ho,Op.operands])
 have r3:=hr x (by simp[ho,Op.operands])
 rw[hm] at r1
 rw[hk] at r2
 obtain⟨b,k1,k2,k3⟩:=hg.raw id _ _ _ _ hM
 have k1:μ id=some (.at b):=k1
 have e1:=rep_map_inv r1 k1
 have e2:a.eval k=.string ⟨kk.toArray⟩:=by
  generalize a.eval k=v at r2
  cases r2
  rfl
 have hkeys:=upd_keys ps l kk (a.eval x) (ρ x) hps
 have hlen:ps.length=l.length:=by
  have:=congrArg List.length hps
  simpa using this
 obtain⟨_,hev,hG⟩:=gam_turnR hg hM k1 (.map (entsF 0 (upd ps kk (a.eval x))).toArray (upd ps kk (a.eval x)).length) ((upd ps kk (a.eval x)).map (·.2)).toArray (enumT 0 ((upd l kk (ρ x)).map (·.2))) (by intro c ty fr h;cases h) (by
  intro i
  rw[lookup_enum0]
  have old:=k3 i
  rw[lookup_enum0] at old
  have hat:=at_keys ps l kk hps
  have getD_eq:∀(qs:List (List UInt8×Value)),(qs.map (·.2)).toArray.getD i undef=((qs[i]?).map (·.2)).getD undef:=by
   intro qs
   simp[Array.getD_eq_getD_getElem?]
  rw[getD_eq] at old ⊢
  simp only[List.getElem?_map] at old ⊢
  cases ha:at? ps kk with
  |none=>
   rw[ha] at hat
   have hb2:at? l kk=none:=by
    cases hl:at? l kk with
    |none=>rfl
    |some p=>rw[hl] at hat;cases hat
   rw[upd_none ps kk _ ha,upd_none l kk _ hb2]
   rcases Nat.lt_trichotomy i ps.length with h|h|h
   ·rw[List.getElem?_append_left h,List.getElem?_append_left (by omega)]
    exact old
   ·subst h
    rw[List.getElem?_append_right (Nat.le_refl _),hlen,List.getElem?_append_right (Nat.le_refl _)]
    simpa using r3
   ·rw[List.getElem?_eq_none (by simp;omega),List.getElem?_eq_none (by simp;omega)]
    exact .top _
  |some p=>
   obtain⟨j,y⟩:=p
   rw[ha] at hat
   cases hl:at? l kk with
   |none=>rw[hl] at hat;cases hat
   |some q=>
    obtain⟨j',z⟩:=q
    rw[hl] at hat
    simp only[Option.map_some,Option.some.injEq] at hat
    subst hat
    obtain⟨h1,h2⟩:=upd_some ps kk (a.eval x) j y ha
    obtain⟨h3,h4⟩:=upd_some l kk (ρ x) j z hl
    have hj1:j < ps.length:=(List.getElem?_eq_some_iff.1 h1).1
    have hj2:j < l.length:=(List.getElem?_eq_some_iff.1 h3).1
    rw[h2,h4]
    by_cases hij:j=i
    ·subst hij
     rw[List.getElem?_set_self hj1,List.getElem?_set_self hj2]
     exact r3
    ·rw[List.getElem?_set_ne hij,List.getElem?_set_ne hij]
     exact old)
 have hrun:(execOp a.eval o).run P w=.ok .skip (w.putObj b (.map (entsF 0 (upd ps kk (a.eval x))).toArray (upd ps kk (a.eval x)).length)):=by
  simp[execOp,ho,e1,e2,run_mapUpdate hmt hkt k2 kk (a.eval x),Result.andThen]
 unfold Oper.wp
 rw[hrun]
 exact g1 _ _ _ _ .top hev hG (.top _) ⟨rfl,_,hkeys,rfl⟩
def iterA (b id n:Nat) (seen:Array Nat):AObj:=.raw none (.mapIter (some b) n seen n) #[.map (some b)] [(0,.map id)]
def IsIter (M:Mem) (it id n:Nat) (seen:Array Nat):Prop:=∃b,M.get it=some (iterA b id n seen)
theorem opG_range {P:Program} {o:Oper} {mt kt et:TypeId} (hmt:P.underlying mt=some (.map kt et)) {m:Operand} (ho:o.op=.range mt m) {ρ:Operand→AV} {M:Mem} {id:Nat} {l:List (List UInt8×AV)} (hm:ρ m=.map id) (hM:IsMap M id l) {Kp:AV→Mem→Prop}:
  OpG P o ρ M (fun u M'=>u=.ptr M.next 0∧∃b,M'=M.push (iterA b id l.length #[])) Kp:=by
 obtain⟨ps,hps,hM⟩:=hM
 intro μ F w a hg hr next Q' g1 g2
 have r1:=hr m (by simp[ho,Op.operands])
 rw[hm] at r1
 obtain⟨b,k1,k2,k3⟩:=hg.raw id _ _ _ _ hM
 have k1:μ id=some (.at b):=k1
 have e1:=rep_map_inv r1 k1
 have hlen:ps.length=l.length:=by
  have:=congrArg List.length hps
  simpa using this
 have hb:=below_push w (.mapIter (some b) ps.length #[] ps.length)
 have hnew:({w with heap:=w.heap.push (.mapIter (some b) ps.length #[] ps.length)}:World).heap[w.heap.size]? =some (.mapIter (some b) ps.length #[] ps.length):=by simp
 obtain⟨he,hG⟩:=gam_pushraw hg hb (vs:=#[.map (some b)]) (t:=[(0,.map id)]) (Nat.le_refl _) hnew (fun i=>by
  by_cases hi:i=0
  ·subst hi
   rw[←e1]
   exact r1
  ·have:lookup [((0:Nat),AV.map id)] i=none:=by simp[lookup,hi]
   rw[this]
   exact .top _)
 have hrun:(execOp a.eval o).run P w=.ok (.value (.pointer (some ⟨w.heap.size,0,none⟩))) {w with heap:=w.heap.push (.mapIter (some b) ps.length #[] ps.length)}:=by
  have:=run_range_map w mt kt et b (entsF 0 ps).toArray ps.length hmt k2
  simp[execOp,ho,e1,this,Result.andThen]
 unfold Oper.wp
 rw[hrun]
 refine g1 _ _ _ _ _ he hG ?_ ⟨rfl,b,by rw[hlen];rfl⟩
 exact .ptr _ _ _ rfl (by simp[Mu.put]) (fun b hb=>by simp[Mu.put] at hb;subst hb;rfl)
theorem opG_next {P:Program} {o:Oper} {y:Operand} (ho:o.op=.next y false) {ρ:Operand→AV} {M:Mem} {it id:Nat} {l:List (List UInt8×AV)} {seen:Array Nat} (hy:ρ y=.ptr it 0) (hI:IsIter M it id l.length seen) (hM:IsMap M id l) {Kp:AV→Mem→Prop}:
  OpG P o ρ M (fun u M'=>(u=.tup [.bool false]∧M'=M∧∀i,i < l.length→seen.contains i=true)∨
   ∃b i k x,l[i]? =some (k,x)∧seen.contains i=false∧u=.tup [.bool true,.str k,x]∧M'=M.set it (iterA b id l.length (seen.push i))) Kp:=by
 obtain⟨ps,hps,hM⟩:=hM
 obtain⟨b,hI⟩:=hI
 intro μ F w a hg hr next Q' g1 g2
 have r1:=hr y (by simp[ho,Op.operands])
 rw[hy] at r1
 obtain⟨b1,k1,k2,k3⟩:=hg.raw id _ _ _ _ hM
 have k1:μ id=some (.at b1):=k1
 obtain⟨b2,j1,j2,j3⟩:=hg.raw it _ _ _ _ hI
 have j1:μ it=some (.at b2):=j1
 have e1:=rep_ptr_inv r1 j1
 have hbb:b=b1:=by
  have:=rep_map_inv (j3 0) k1
  injection this with h
  injection h
 subst hbb
 have hlen:ps.length=l.length:=by
  have:=congrArg List.length hps
  simpa using this
 rw[hlen] at k2
 have hold:∀e∈(entsF 0 ps).toArray.toList,e.born < l.length:=by
  intro e he
  obtain⟨i,p,hp,rfl⟩:=entsF_mem (by simpa using he)
  have:=(List.getElem?_eq_some_iff.1 hp).1
  simp
  omega
 have hx:∀(r:Result Value),(Instr.next (.pointer (some ⟨b2,0,none⟩)) false o.type).run P w=r→(execOp a.eval o).run P w=r.andThen fun v w'=>.ok (.value v) w':=by
  intro r h
  simp[execOp,ho,e1,h]
 rcases run_next_at (P:=P) w o.type b2 b l.length l.length seen (entsF 0 ps).toArray l.length j2 k2 hold (Nat.le_refl _) with ⟨h0,hn⟩|⟨e,he,w1,hw1,hn⟩
 ·unfold Oper.wp
  rw[hx _ hn]
  refine g1 μ M w _ (.tup [.bool false]) (Evo.refl w μ) hg (.tup _ _ rfl ?_) (.inl ⟨rfl,rfl,?_⟩)
  ·intro i x v hx hv
   match i,hx with
   |0,hx=>
    cases hx
    simp at hv
    subst hv
    exact .bool false
   |i+1,hx=>simp at hx
  ·intro i hi
   cases hc:seen.contains i with
   |true=>rfl
   |false=>
    have hlt:i < ps.length:=by omega
    have hp:(entsF 0 ps)[i]? =some {key:=.string ⟨(ps[i]'hlt).1.toArray⟩,val:=(ps[i]'hlt).2,born:=0+i}:=by rw[entsF_get,List.getElem?_eq_getElem hlt];rfl
    have hm2:=List.mem_of_getElem? hp
    have:∃e,e∈leftOf (entsF 0 ps).toArray seen:=⟨_,Array.mem_filter.2 ⟨by simpa using hm2,by show (!seen.contains i)=true;rw[hc];rfl⟩⟩
    obtain⟨e,he⟩:=this
    have h1:=Array.size_pos_of_mem he
    omega
 ·obtain⟨hm1,hm2⟩:=mem_left he
  obtain⟨i,p,hp,rfl⟩:=entsF_mem (by simpa using hm1)
  have hi:i < ps.length:=(List.getElem?_eq_some_iff.1 hp).1
  have hli:l[i]? =some (l[i]'(by omega)):=List.getElem?_eq_getElem (by omega)
  have hkey:(l[i]'(by omega)).1=p.1:=by
   have:=congrArg (·[i]?) hps
   simp only[List.getElem?_map,hp,hli,Option.map_some,Option.some.injEq] at this
   exact this.symm
  simp only[Nat.zero_add] at hm2 hn
  have hw:Below w.heap.size w w1∧w1.heap=w.heap:=by
   rcases hw1 with rfl|rfl
   ·exact⟨Below.refl _ _,rfl⟩
   ·exact⟨(Below.refl _ _).drew,rfl⟩
  have hg1:=hg.below hw.1
  obtain⟨_,hev,hG⟩:=gam_turnR hg1 hI j1 (.mapIter (some b) l.length (seen.push i) l.length) #[.map (some b)] [(0,.map id)] (by intro c ty fr h;cases h) (fun i=>(j3 i).later hw.1)
  have hv:=k3 i
  rw[lookup_enum0] at hv
  simp only[List.getElem?_map,hli,Option.map_some,Option.getD_some] at hv
  have hv2:(ps.map (·.2)).toArray.getD i undef=p.2:=by
   simp[Array.getD_eq_getD_getElem?,hp]
  rw[hv2] at hv
  have hev':=(Evo.of_below μ hw.1).trans hev
  unfold Oper.wp
  rw[hx _ hn]
  refine g1 μ _ _ _ (.tup [.bool true,.str (l[i]'(by omega)).1,(l[i]'(by omega)).2]) hev' hG (.tup _ _ rfl ?_) (.inr ⟨b,i,_,_,hli,hm2,rfl,rfl⟩)
  intro j x v hx hv'
  match j,hx with
  |0,hx=>
   cases hx
   simp at hv'
   subst hv'
   exact .bool true
  |1,hx=>
   cases hx
   simp at hv'
   subst hv'
   rw[hkey]
   exact .str _
  |2,hx=>
   cases hx
   simp at hv'
   subst hv'
   exact hv.evo hev'
  |j+3,hx=>simp at hx
section
variable {P:Program} {ops:Array Oper} {cls:Nat→Cls} {Q:AX→AF→Mem→Prop} {ds:List ADef} {ls:List Nat} {i:Nat} {t:List (Nat×AV)} {M:Mem}
def stepMake (ops:Array Oper) (cls:Nat→Cls) (ds:List ADef) (i:Nat) (t:List (Nat×AV)):Option (Nat×TypeId):=
 match ops[i]? with
 |some o=>
  match wantedA ops ⟨t,ds⟩ o,o.dst,isE (cls i),o.op with
  |some true,some d,true,.makeMap mt none=>some (d,mt)
  |some true,some d,true,.makeMap mt (some y)=>(match AF.ev ⟨t,ds⟩ y with
   |.int _ _=>some (d,mt)
   |_=>none)
  |_,_,_,_=>none
 |none=>none
theorem DW_mmake {d:Nat} {mt kt et:TypeId} (hs:stepMake ops cls ds i t=some (d,mt)) (hmt:P.underlying mt=some (.map kt et)) (h:DW P ops cls Q ds ls ((d,.map M.next)::t) (M.push (mapA [] []))):DW P ops cls Q ds (i::ls) t M:=by
 unfold stepMake at hs
 split at hs
 ·rename_i o hi
  split at hs
  ·rename_i d' mt' hw hd hc ho
   cases hs
   exact DW_ofE hi hw hd hc (by rw[ho];exact opE_makeMap) h
  ·rename_i d' mt' y hw hd hc ho
   split at hs
   ·rename_i ik n hy
    cases hs
    exact DW_ofE hi hw hd hc (by rw[ho];exact opE_makeMap1 hmt hy) h
   ·cases hs
  ·cases hs
 ·cases hs
def stepMupd (ops:Array Oper) (cls:Nat→Cls) (ds:List ADef) (i:Nat) (t:List (Nat×AV)):Option (TypeId×Nat×List UInt8×AV):=
 match ops[i]? with
 |some o=>
  match wantedA ops ⟨t,ds⟩ o,o.dst,isE (cls i),o.op with
  |some true,none,true,.mapUpdate mt m k x=>(match AF.ev ⟨t,ds⟩ m,AF.ev ⟨t,ds⟩ k with
   |.map id,.str kk=>some (mt,id,kk,AF.ev ⟨t,ds⟩ x)
   |_,_=>none)
  |_,_,_,_=>none
 |none=>none
theorem DW_mupd {mt kt et:TypeId} {id:Nat} {kk:List UInt8} {x:AV} (hs:stepMupd ops cls ds i t=some (mt,id,kk,x)) (hmt:P.underlying mt=some (.map kt et)) (hkt:P.underlying kt=some .string) {l:List (List UInt8×AV)} (hM:IsMap M id l)
  (h:∀ps',ps'.map (·.1)=(upd l kk x).map (·.1)→DW P ops cls Q ds ls t (M.set id (mapA ps' (upd l kk x)))):DW P ops cls Q ds (i::ls) t M:=by
 unfold stepMupd at hs
 split at hs
 ·rename_i o hi
  split at hs
  ·rename_i mt' m k y hw hd hc ho
   split at hs
   ·rename_i id' kk' hm hk
    cases hs
    refine DW_run hi hw ?_
    refine SC.of_G hc (by intro c hc;rw[ho] at hc;cases hc) ?_
    refine OpG.mono (opG_mapUpdate hmt hkt ho hm hk hM) ?_
    rintro u M' ⟨rfl,ps',h1,rfl⟩
    have:=h ps' h1
    simpa [AF.put,hd] using this
   ·cases hs
  ·cases hs
 ·cases hs
def stepMrng (ops:Array Oper) (cls:Nat→Cls) (ds:List ADef) (i:Nat) (t:List (Nat×AV)):Option (Nat×TypeId×Nat):=
 match ops[i]? with
 |some o=>
  match wantedA ops ⟨t,ds⟩ o,o.dst,isE (cls i),o.op with
  |some true,some d,true,.range mt m=>(match AF.ev ⟨t,ds⟩ m with
   |.map id=>some (d,mt,id)
   |_=>none)
  |_,_,_,_=>none
 |none=>none
theorem DW_mrng {d:Nat} {mt kt et:TypeId} {id:Nat} (hs:stepMrng ops cls ds i t=some (d,mt,id)) (hmt:P.underlying mt=some (.map kt et)) {l:List (List UInt8×AV)} (hM:IsMap M id l)
  (h:∀b,DW P ops cls Q ds ls ((d,.ptr M.next 0)::t) (M.push (iterA b id l.length #[]))):DW P ops cls Q ds (i::ls) t M:=by
 unfold stepMrng at hs
 split at hs
 ·rename_i o hi
  split at hs
  ·rename_i d' mt' m hw hd hc ho
   split at hs
   ·rename_i id' hm
    cases hs
    refine DW_run hi hw ?_
    refine SC.of_G hc (by intro c hc;rw[ho] at hc;cases hc) ?_
    refine OpG.mono (opG_range hmt ho hm hM) ?_
    rintro u M' ⟨rfl,b,rfl⟩
    have:=h b
    simpa [AF.put,hd] using this
   ·cases hs
  ·cases hs
 ·cases hs
def stepMnext (ops:Array Oper) (cls:Nat→Cls) (ds:List ADef) (i:Nat) (t:List (Nat×AV)):Option (Nat×Nat):=
 match ops[i]? with
 |some o=>
  match wantedA ops ⟨t,ds⟩ o,o.dst,isE (cls i),o.op with
  |some true,some d,true,.next y false=>(match AF.ev ⟨t,ds⟩ y with
   |.ptr it 0=>some (d,it)
   |_=>none)
  |_,_,_,_=>none
 |none=>none
theorem DW_mnext {d it id:Nat} (hs:stepMnext ops cls ds i t=some (d,it)) {l:List (List UInt8×AV)} {seen:Array Nat} (hI:IsIter M it id l.length seen) (hM:IsMap M id l)
  (h0:(∀j,j < l.length→seen.contains j=true)→DW P ops cls Q ds ls ((d,.tup [.bool false])::t) M)
  (h1:∀b j k x,l[j]? =some (k,x)→seen.contains j=false→DW P ops cls Q ds ls ((d,.tup [.bool true,.str k,x])::t) (M.set it (iterA b id l.length (seen.push j)))):DW P ops cls Q ds (i::ls) t M:=by
 unfold stepMnext at hs
 split at hs
 ·rename_i o hi
  split at hs
  ·rename_i d' y hw hd hc ho
   split at hs
   ·rename_i it' hy
    cases hs
    refine DW_run hi hw ?_
    refine SC.of_G hc (by intro c hc;rw[ho] at hc;cases hc) ?_
    refine OpG.mono (opG_next ho hy hI hM) ?_
    rintro u M' (⟨rfl,rfl,h⟩|⟨b,j,k,x,h2,h3,rfl,rfl⟩)
    ·have:=h0 h
     simpa [AF.put,hd] using this
    ·have:=h1 b j k x h2 h3
     simpa [AF.put,hd] using this
   ·cases hs
  ·cases hs
 ·cases hs
end
end Go.Ab
namespace Go.Proofs.YtbcaejhhgkcgpaaDoor
open Go.Ab
theorem snoc_ind {α:Type} {p:List α→Prop} (h0:p []) (h1:∀l d,p l→p (l++[d])):∀l,p l:=by
 intro l
 have k:∀m:List α,p m.reverse:=fun m=>by
  induction m with
  |nil=>exact h0
  |cons a m ih=>rw[List.reverse_cons];exact h1 _ _ ih
 have:=k l.reverse
 rwa [List.reverse_reverse] at this
theorem map_inj_on {α β:Type} {f:α→β}:∀{l:List α},(l.map f).Nodup→∀{x y:α},x∈l→y∈l→f x=f y→x=y
 |[],_,x,y,hx,_,_=>by cases hx
 |a::r,h,x,y,hx,hy,e=>by
  simp only[List.map_cons,List.nodup_cons] at h
  rcases List.mem_cons.1 hx with rfl|h1<;>rcases List.mem_cons.1 hy with rfl|h2
  ·rfl
  ·exact absurd (List.mem_map.2 ⟨y,h2,e.symm⟩) h.1
  ·exact absurd (List.mem_map.2 ⟨x,h1,e⟩) h.1
  ·exact map_inj_on h.2 h1 h2 e
def lastC (l:List Ch) (p:Bytes):Option Ch:=l.foldl (fun o c=>if c.path=p then some c else o) none
theorem lastC_snoc (l:List Ch) (d:Ch) (p:Bytes):lastC (l++[d]) p=if d.path=p then some d else lastC l p:=by simp[lastC]
theorem lastC_path:∀(l:List Ch) {p:Bytes} {c:Ch},lastC l p=some c→c.path=p∧c∈l:=by
 intro l
 induction l using snoc_ind with
 |h0=>intro p c h;cases h
 |h1 l d ih=>
  intro p c h
  rw[lastC_snoc] at h
  split at h
  ·cases h
   exact⟨by assumption,by simp⟩
  ·exact⟨(ih h).1,by simp[(ih h).2]⟩
theorem lastC_mem:∀(l:List Ch) {c:Ch},c∈l→∃d,lastC l c.path=some d:=by
 intro l
 induction l using snoc_ind with
 |h0=>intro c h;cases h
 |h1 l d ih=>
  intro c h
  rw[lastC_snoc]
  by_cases e:d.path=c.path
  ·exact⟨d,by rw[if_pos e]⟩
  ·rw[if_neg e]
   refine ih ?_
   rcases List.mem_append.1 h with h|h
   ·exact h
   ·simp at h
    subst h
    exact absurd rfl e
theorem lastC_app (l m:List Ch) (p:Bytes):lastC (l++m) p=match lastC m p with|some c=>some c|none=>lastC l p:=by
 induction m using snoc_ind with
 |h0=>simp[lastC]
 |h1 m d ih=>
  rw[←List.append_assoc,lastC_snoc,lastC_snoc,ih]
  by_cases e:d.path=p<;>simp[e]
def insC:List Ch→Ch→List Ch
 |[],c=>[c]
 |d::r,c=>if bl d.path c.path=true then d::insC r c else if d.path=c.path then c::r else c::d::r
theorem mem_insC:∀{l:List Ch} {c x:Ch},RiseC l→(x∈insC l c↔x=c∨(x∈l∧x.path≠c.path))
 |[],c,x,_=>by simp[insC]
 |d::r,c,x,h=>by
  obtain⟨h1,h2⟩:=List.pairwise_cons.1 h
  have ih:=@mem_insC r c x h2
  unfold insC
  split
  ·rename_i e
   have hne:d.path≠c.path:=fun k=>by rw[k,bl_irrefl] at e;cases e
   rw[List.mem_cons,ih,List.mem_cons]
   constructor
   ·rintro (rfl|h|⟨h3,h4⟩)
    ·exact .inr ⟨.inl rfl,hne⟩
    ·exact .inl h
    ·exact .inr ⟨.inr h3,h4⟩
   ·rintro (h|⟨rfl|h3,h4⟩)
    ·exact .inr (.inl h)
    ·exact .inl rfl
    ·exact .inr (.inr ⟨h3,h4⟩)
  ·rename_i e
   split
   ·rename_i k
    rw[List.mem_cons,List.mem_cons]
    constructor
    ·rintro (h3|h3)
     ·exact .inl h3
     ·refine .inr ⟨.inr h3,fun k2=>?_⟩
      have:=h1 x h3
      rw[k2,k,bl_irrefl] at this
      cases this
    ·rintro (h3|⟨rfl|h3,h4⟩)
     ·exact .inl h3
     ·exact absurd k h4
     ·exact .inr h3
   ·rename_i k
    have hb:bl c.path d.path=true:=(bl_total k).resolve_left e
    rw[List.mem_cons,List.mem_cons]
    constructor
    ·rintro (h3|rfl|h3)
     ·exact .inl h3
     ·exact .inr ⟨.inl rfl,k⟩
     ·refine .inr ⟨.inr h3,fun k2=>?_⟩
      have:=bl_trans hb (h1 x h3)
      rw[k2,bl_irrefl] at this
      cases this
    ·rintro (h3|⟨h3,_⟩)
     ·exact .inl h3
     ·exact .inr h3
theorem rise_insC:∀{l:List Ch} {c:Ch},RiseC l→RiseC (insC l c)
 |[],c,_=>by simp[insC,RiseC]
 |d::r,c,h=>by
  obtain⟨h1,h2⟩:=List.pairwise_cons.1 h
  have ih:=@rise_insC r c h2
  unfold insC
  split
  ·rename_i e
   refine List.pairwise_cons.2 ⟨fun x hx=>?_,ih⟩
   rcases (mem_insC h2).1 hx with rfl|⟨h3,_⟩
   ·exact e
   ·exact h1 x h3
  ·rename_i e
   split
   ·rename_i k
    exact List.pairwise_cons.2 ⟨fun x hx=>by rw[←k];exact h1 x hx,h2⟩
   ·rename_i k
    have hb:bl c.path d.path=true:=(bl_total k).resolve_left e
    refine List.pairwise_cons.2 ⟨fun x hx=>?_,h⟩
    rcases List.mem_cons.1 hx with rfl|h3
    ·exact hb
    ·exact bl_trans hb (h1 x h3)
def sortC (l:List Ch):List Ch:=l.foldl insC []
theorem sortC_snoc (l:List Ch) (d:Ch):sortC (l++[d])=insC (sortC l) d:=by simp[sortC]
theorem rise_sortC (l:List Ch):RiseC (sortC l):=by
 induction l using snoc_ind with
 |h0=>exact List.Pairwise.nil
 |h1 l d ih=>rw[sortC_snoc];exact rise_insC ih
theorem mem_sortC (l:List Ch) (c:Ch):c∈sortC l↔lastC l c.path=some c:=by
 induction l using snoc_ind with
 |h0=>simp[sortC,lastC]
 |h1 l d ih=>
  rw[sortC_snoc,mem_insC (rise_sortC l),lastC_snoc,ih]
  by_cases e:d.path=c.path
  ·rw[if_pos e]
   constructor
   ·rintro (rfl|⟨_,h⟩)
    ·rfl
    ·exact absurd e.symm h
   ·intro h
    exact .inl (Option.some.inj h).symm
  ·rw[if_neg e]
   constructor
   ·rintro (rfl|⟨h,_⟩)
    ·exact absurd rfl e
    ·exact h
   ·intro h
    exact .inr ⟨h,fun k=>e k.symm⟩
theorem rise_ext:∀{a b:List Ch},RiseC a→RiseC b→(∀c,c∈a↔c∈b)→a=b
 |[],[],_,_,_=>rfl
 |[],y::s,_,_,h=>by have:=(h y).2 (by simp);cases this
 |x::r,[],_,_,h=>by have:=(h x).1 (by simp);cases this
 |x::r,y::s,ha,hb,h=>by
  obtain⟨a1,a2⟩:=List.pairwise_cons.1 ha
  obtain⟨b1,b2⟩:=List.pairwise_cons.1 hb
  have hxy:x=y:=by
   rcases List.mem_cons.1 ((h x).1 (by simp)) with e|e
   ·exact e
   ·rcases List.mem_cons.1 ((h y).2 (by simp)) with e2|e2
    ·exact e2.symm
    ·have:=bl_trans (a1 y e2) (b1 x e)
     rw[bl_irrefl] at this
     cases this
  subst hxy
  have:r=s:=rise_ext a2 b2 fun c=>by
   have hr:∀{t:List Ch},(∀z,z∈t→bl x.path z.path=true)→c∈t→c≠x:=by
    intro t ht hc e
    have:=ht c hc
    rw[e,bl_irrefl] at this
    cases this
   constructor
   ·intro hc
    rcases List.mem_cons.1 ((h c).1 (by simp[hc])) with e|e
    ·exact absurd e (hr a1 hc)
    ·exact e
   ·intro hc
    rcases List.mem_cons.1 ((h c).2 (by simp[hc])) with e|e
    ·exact absurd e (hr b1 hc)
    ·exact e
  rw[this]
theorem upd_nodup {α:Type}:∀(m:List (Bytes×α)) (k:Bytes) (x:α),(m.map (·.1)).Nodup→((upd m k x).map (·.1)).Nodup∧∀p,p∈upd m k x↔p=(k,x)∨(p∈m∧p.1≠k)
 |[],k,x,_=>by simp[upd]
 |(k',y)::r,k,x,h=>by
  simp only[List.map_cons,List.nodup_cons] at h
  obtain⟨h1,h2⟩:=h
  obtain⟨i1,i2⟩:=upd_nodup r k x h2
  unfold upd
  split
  ·rename_i e
   subst e
   refine⟨List.nodup_cons.2 ⟨h1,h2⟩,fun p=>?_⟩
   have hr:∀p,p∈r→p.1≠k':=fun p hp e=>h1 (List.mem_map.2 ⟨p,hp,e⟩)
   rw[List.mem_cons,List.mem_cons]
   constructor
   ·rintro (h3|h3)
    ·exact .inl h3
    ·exact .inr ⟨.inr h3,hr p h3⟩
   ·rintro (h3|⟨rfl|h3,h4⟩)
    ·exact .inl h3
    ·exact absurd rfl h4
    ·exact .inr h3
  ·rename_i e
   refine⟨?_,fun p=>?_⟩
   ·simp only[List.map_cons]
    refine List.nodup_cons.2 ⟨fun hm=>?_,i1⟩
    obtain⟨p,hp,hp2⟩:=List.mem_map.1 hm
    rcases (i2 p).1 hp with rfl|⟨h3,_⟩
    ·exact e hp2.symm
    ·exact h1 (List.mem_map.2 ⟨p,h3,hp2⟩)
   ·rw[List.mem_cons,i2 p,List.mem_cons]
    constructor
    ·rintro (rfl|h3|⟨h3,h4⟩)
     ·exact .inr ⟨.inl rfl,e⟩
     ·exact .inl h3
     ·exact .inr ⟨.inr h3,h4⟩
    ·rintro (h3|⟨rfl|h3,h4⟩)
     ·exact .inr (.inl h3)
     ·exact .inl rfl
     ·exact .inr (.inr ⟨h3,h4⟩)
def mapC (l:List Ch):List (Bytes×Ch):=l.foldl (fun m c=>upd m c.path c) []
theorem mapC_snoc (l:List Ch) (d:Ch):mapC (l++[d])=upd (mapC l) d.path d:=by simp[mapC]
theorem mapC_ok (l:List Ch):((mapC l).map (·.1)).Nodup∧∀k c,(k,c)∈mapC l↔c.path=k∧lastC l k=some c:=by
 induction l using snoc_ind with
 |h0=>simp[mapC,lastC]
 |h1 l d ih=>
  obtain⟨h1,h2⟩:=ih
  obtain⟨u1,u2⟩:=upd_nodup (mapC l) d.path d h1
  rw[mapC_snoc]
  refine⟨u1,fun k c=>?_⟩
  rw[u2,h2,lastC_snoc]
  by_cases e:d.path=k
  ·rw[if_pos e]
   constructor
   ·rintro (h|⟨_,h⟩)
    ·cases h
     exact⟨rfl,rfl⟩
    ·exact absurd e.symm h
   ·rintro⟨_,h⟩
    cases h
    rw[e]
    exact .inl rfl
  ·rw[if_neg e]
   constructor
   ·rintro (h|⟨h,_⟩)
    ·cases h
     exact absurd rfl e
    ·exact h
   ·intro h
    exact .inr ⟨h,fun k2=>e k2.symm⟩
theorem sorted_map {l s:List Ch} (hp:s.Perm ((mapC l).map (·.2))) (hs:s.Pairwise fun a b=>bl b.path a.path=false):s=sortC l:=by
 obtain⟨h1,h2⟩:=mapC_ok l
 have hmem:∀c,c∈s↔lastC l c.path=some c:=by
  intro c
  rw[hp.mem_iff,List.mem_map]
  constructor
  ·rintro⟨⟨k,d⟩,hd,rfl⟩
   obtain⟨rfl,h⟩:=(h2 k d).1 hd
   exact h
  ·intro h
   exact⟨(c.path,c),(h2 _ _).2 ⟨rfl,h⟩,rfl⟩
 have hkey:(mapC l).map (·.1)=((mapC l).map (·.2)).map Ch.path:=by
  rw[List.map_map]
  refine List.map_congr_left fun p hp=>?_
  obtain⟨k,c⟩:=p
  exact ((h2 k c).1 hp).1.symm
 rw[hkey] at h1
 have hnd:(s.map Ch.path).Nodup:=((hp.map Ch.path).nodup_iff).2 h1
 have hrise:RiseC s:=by
  have h3:s.Pairwise fun a b=>a.path≠b.path:=by
   have:=hnd
   rw[List.Nodup,List.pairwise_map] at this
   exact this
  exact (hs.and h3).imp fun {a b} ⟨h4,h5⟩=>(bl_total h5).resolve_right (by simp[h4])
 exact rise_ext hrise (rise_sortC l) fun c=>by rw[hmem,mem_sortC]
def normC (l:List Ch):List Ch×Int:=if (l.any fun c=>!mayB c)=true then ([],1) else if batchB (sortC l)=true then (sortC l,0) else ([],1)
theorem batch_rise {l:List Ch} (h:batchB l=true):1≤l.length∧l.length≤20∧(∀c,c∈l→mayB c=true)∧RiseC l:=by
 unfold batchB at h
 simp only[Bool.and_eq_true,decide_eq_true_eq,List.all_eq_true] at h
 exact⟨h.1.1.1,h.1.1.2,h.1.2,h.2⟩
theorem sortC_rise {l:List Ch} (h:RiseC l):sortC l=l:=by
 refine rise_ext (rise_sortC l) h fun c=>?_
 rw[mem_sortC]
 constructor
 ·intro h2
  exact (lastC_path l h2).2
 ·intro hc
  obtain⟨d,hd⟩:=lastC_mem l hc
  obtain⟨e1,e2⟩:=lastC_path l hd
  have:d=c:=by
   obtain⟨i,hi⟩:=List.mem_iff_getElem?.1 hc
   obtain⟨j,hj⟩:=List.mem_iff_getElem?.1 e2
   have hil:=(List.getElem?_eq_some_iff.1 hi)
   have hjl:=(List.getElem?_eq_some_iff.1 hj)
   obtain⟨hi1,hi2⟩:=hil
   obtain⟨hj1,hj2⟩:=hjl
   rcases Nat.lt_trichotomy i j with hlt|rfl|hlt
   ·have:=List.pairwise_iff_getElem.1 h i j hi1 hj1 hlt
    rw[hi2,hj2,e1,bl_irrefl] at this
    cases this
   ·rw[←hi2,←hj2]
   ·have:=List.pairwise_iff_getElem.1 h j i hj1 hi1 hlt
    rw[hi2,hj2,e1,bl_irrefl] at this
    cases this
  rw[this] at hd
  exact hd
theorem norm_batch (l:List Ch):batchB l=decide (normC l=(l,0)):=by
 rw[Bool.eq_iff_iff,decide_eq_true_eq]
 unfold normC
 constructor
 ·intro h
  obtain⟨_,_,h3,h4⟩:=batch_rise h
  have e:(l.any fun c=>!mayB c)=false:=by
   rw[List.any_eq_false]
   intro c hc
   simp[h3 c hc]
  rw[e,sortC_rise h4,h]
  rfl
 ·intro h
  split at h
  ·cases h
  ·split at h
   ·rename_i h2
    have:sortC l=l:=congrArg Prod.fst h
    rwa [this] at h2
   ·cases h
theorem normC_ok {l:List Ch} (h:(normC l).2=0):batchB (normC l).1=true∧(normC l).1=sortC l:=by
 unfold normC at h ⊢
 split at h
 ·cases h
 ·rename_i h1
  rw[if_neg h1]
  split at h
  ·rename_i h2
   rw[if_pos h2]
   exact⟨h2,rfl⟩
  ·cases h
theorem lastC_nodup {l:List Ch} (h:(l.map Ch.path).Nodup) (c:Ch):lastC l c.path=some c↔c∈l:=by
 constructor
 ·intro k
  exact (lastC_path l k).2
 ·intro hc
  obtain⟨d,hd⟩:=lastC_mem l hc
  obtain⟨e1,e2⟩:=lastC_path l hd
  rw[hd]
  congr 1
  exact map_inj_on h e2 hc e1
theorem sort_perm {l m:List Ch} (h:(l.map Ch.path).Nodup) (hp:l.Perm m):sortC l=sortC m:=by
 refine rise_ext (rise_sortC l) (rise_sortC m) fun c=>?_
 rw[mem_sortC,mem_sortC,lastC_nodup h,lastC_nodup (((hp.map Ch.path).nodup_iff).1 h),hp.mem_iff]
theorem norm_perm {l m:List Ch} (h:(l.map Ch.path).Nodup) (hp:l.Perm m):normC l=normC m:=by
 unfold normC
 have:(l.any fun c=>!mayB c)=(m.any fun c=>!mayB c):=by
  rw[Bool.eq_iff_iff,List.any_eq_true,List.any_eq_true]
  simp[hp.mem_iff]
 rw[this,sort_perm h hp]
theorem norm_join {l m:List Ch} (h:(l.map Ch.path).Nodup) (hp:l.Perm m):normC (l++m)=normC l:=by
 unfold normC
 have e1:((l++m).any fun c=>!mayB c)=(l.any fun c=>!mayB c):=by
  rw[List.any_append]
  have:(m.any fun c=>!mayB c)=(l.any fun c=>!mayB c):=by
   rw[Bool.eq_iff_iff,List.any_eq_true,List.any_eq_true]
   simp[hp.mem_iff]
  rw[this,Bool.or_self]
 have e2:sortC (l++m)=sortC l:=by
  refine rise_ext (rise_sortC _) (rise_sortC l) fun c=>?_
  have hm:(m.map Ch.path).Nodup:=((hp.map Ch.path).nodup_iff).1 h
  rw[mem_sortC,mem_sortC,lastC_app,lastC_nodup h]
  constructor
  ·intro k
   cases hk:lastC m c.path with
   |some d=>
    rw[hk] at k
    cases k
    exact hp.mem_iff.2 ((lastC_nodup hm c).1 hk)
   |none=>
    rw[hk] at k
    exact (lastC_path l k).2
  ·intro hc
   rw[(lastC_nodup hm c).2 (hp.mem_iff.1 hc)]
 rw[e1,e2]
theorem join_mem {l m:List Ch} (hl:RiseC l) (hm:RiseC m) (c:Ch):c∈sortC (l++m)↔c∈m∨(c∈l∧∀d,d∈m→d.path≠c.path):=by
 have nd:∀{l:List Ch},RiseC l→(l.map Ch.path).Nodup:=by
  intro l h
  rw[List.Nodup,List.pairwise_map]
  exact h.imp fun {a b} hab e=>by rw[e,bl_irrefl] at hab;cases hab
 rw[mem_sortC,lastC_app]
 cases hk:lastC m c.path with
 |some d=>
  obtain⟨e1,e2⟩:=lastC_path m hk
  constructor
  ·intro k
   cases k
   exact .inl e2
  ·rintro (h|⟨_,h⟩)
   ·rw[(lastC_nodup (nd hm) c).2 h] at hk
    exact hk.symm
   ·exact absurd e1 (h d e2)
 |none=>
  have hno:∀d,d∈m→d.path≠c.path:=by
   intro d hd e
   obtain⟨x,hx⟩:=lastC_mem m hd
   rw[e,hk] at hx
   cases hx
  constructor
  ·intro k
   exact .inr ⟨(lastC_path l k).2,hno⟩
  ·rintro (h|⟨h,_⟩)
   ·exact absurd rfl (hno c h)
   ·exact (lastC_nodup (nd hl) c).2 h
end Go.Proofs.YtbcaejhhgkcgpaaDoor
namespace Go.Proofs.YtbcaejhhgkcgpaaDoor
open Go.Ab
theorem byteAt_nat (n j:Nat):(byteAt n j).toNat=n/256^j%256:=by
 unfold byteAt
 rw[UInt8.toNat_ofNat']
 omega
theorem num_be4 {n:Nat} (h:n < 4294967296):num (be4 n)=n:=by
 unfold num be4
 simp only[List.foldl_cons,List.foldl_nil,byteAt_nat]
 have e0:n/256^0=n:=by simp
 have e1:n/256^1=n/256:=by simp
 have e2:n/256^2=n/65536:=rfl
 have e3:n/256^3=n/16777216:=rfl
 rw[e0,e1,e2,e3]
 omega
theorem num_drop:∀l:Bytes,num (l.dropWhile (·==0))=num l
 |[]=>rfl
 |b::r=>by
  rw[List.dropWhile_cons]
  by_cases h:(b==0)=true
  ·rw[if_pos h,num_drop r]
   have:b=0:=by simpa using h
   subst this
   rfl
  ·rw[if_neg h]
theorem num_nb {n:Nat} (h:n < 4294967296):num (nb n)=n:=by
 unfold nb nbI
 rw[num_drop,show (be4 n).take 4=be4 n from rfl,num_be4 h]
theorem drop_head:∀l:Bytes,(l.dropWhile (·==0)).head?≠some 0
 |[]=>by simp
 |b::r=>by
  rw[List.dropWhile_cons]
  by_cases h:(b==0)=true
  ·rw[if_pos h]
   exact drop_head r
  ·rw[if_neg h]
   simp at h
   simp[h]
theorem getNum_put {n:Nat} (h:n < 4294967296) (r:Bytes):getNum (putN n++r)=some (n,r):=by
 have hl:(nb n).length≤4:=nbI_len n 4
 have hc:(UInt8.ofNat (nb n).length).toNat=(nb n).length:=by
  rw[UInt8.toNat_ofNat']
  omega
 unfold putN
 rw[List.cons_append,getNum_some]
 ·rw[hc,List.take_left,List.drop_left,num_nb h]
 ·rw[hc,List.take_left]
  rintro (h1|h1|h1)
  ·omega
  ·rw[List.length_append] at h1
   omega
  ·exact drop_head _ h1
theorem nums_cat:∀l:List Int,(∀x,x∈l→0≤x∧x≤4294967295)→nums (catN l)=some (l.map Int.toNat)
 |[],_=>nums_nil
 |x::r,h=>by
  have hx:=h x (by simp)
  have e:catN (x::r)=putN x.toNat++catN r:=by simp[catN]
  rw[e,nums_some (getNum_put (by omega) _),nums_cat r (fun y hy=>h y (by simp[hy]))]
  rfl
theorem getM_put {m:Mt} (h:isM m=true):getM (catN (mtL m))=(m,0):=by
 have hin:=mtL_in h
 unfold getM
 rw[nums_cat _ hin]
 have e:(mtL m).map Int.toNat=m.size.toNat::m.mode.toNat::m.ch.length::m.ch.map Int.toNat:=by
  unfold mtL
  simp
 have e2:nI (m.ch.map Int.toNat)=m.ch:=by
  unfold nI
  rw[List.map_map]
  have:∀l:List Int,(∀x,x∈l→0≤x)→l.map ((fun n:Nat=>(n:Int))∘Int.toNat)=l:=by
   intro l
   induction l with
   |nil=>intro _;rfl
   |cons a r ih=>
    intro hl
    rw[List.map_cons,ih (fun x hx=>hl x (by simp[hx]))]
    have:=hl a (by simp)
    congr 1
    simp
    omega
  exact this _ (fun x hx=>(hin x (by unfold mtL;simp[hx])).1)
 have hs:=hin m.size (by unfold mtL;simp)
 have hm:=hin m.mode (by unfold mtL;simp)
 have e3:(⟨(m.size.toNat:Int),(m.mode.toNat:Int),nI (m.ch.map Int.toNat)⟩:Mt)=m:=by
  rw[e2,Int.toNat_of_nonneg hs.1,Int.toNat_of_nonneg hm.1]
 rw[e,getMo_yes (by simp) (by rw[e3];exact h),e3]
theorem readM_there {m:Mt} (h:isM m=true):readM (valueM m false).1=(m,false,0):=by
 have e:(valueM m false).1=1::catN (mtL m):=by
  unfold valueM putM
  rw[if_neg (by simp),if_pos h,if_pos rfl]
 rw[e]
 show (if (1:UInt8)=0∧catN (mtL m)=[] then (zeroMt,true,(0:Int)) else if (1:UInt8)=1 then ((getM (catN (mtL m))).1,false,(getM (catN (mtL m))).2) else (zeroMt,false,30))=_
 rw[if_neg (by simp),if_pos rfl,getM_put h]
theorem readM_gone (m:Mt):readM (valueM m true).1=(zeroMt,true,0):=by
 have e:(valueM m true).1=[0]:=by
  unfold valueM
  rw[if_pos rfl]
 rw[e]
 rfl
end Go.Proofs.YtbcaejhhgkcgpaaDoor
namespace Go.Proofs.YtbcaejhhgkcgpaaDoor
open Go.Ab
def textT (s:Bytes):Bytes:=if 4000 < s.length then [] else putN s.length++s
def textO (t:Bytes):Option (Bytes×Bytes):=match getNum t with
 |some (n,r)=>if n≤4000∧n≤r.length then some (r.take n,r.drop n) else none
 |none=>none
theorem textO_put {s r:Bytes} (h:s.length≤4000):textO (textT s++r)=some (s,r):=by
 unfold textO textT
 rw[if_neg (by omega),List.append_assoc,getNum_put (by omega)]
 show (if _ then _ else _)=_
 rw[if_pos ⟨h,by simp⟩,List.take_left,List.drop_left]
theorem getNum_inv {s r:Bytes} {n:Nat} (h:getNum s=some (n,r)):putN n++r=s∧n < 4294967296:=by
 cases s with
 |nil=>cases h
 |cons c q=>
  by_cases hc:4 < c.toNat∨q.length < c.toNat∨(q.take c.toNat).head?=some 0
  ·rw[getNum_none hc] at h
   cases h
  ·rw[getNum_some hc] at h
   cases h
   have hl:(q.take c.toNat).length≤4:=by rw[List.length_take];omega
   have hp:=put_num (c:=c) hl (by rw[List.length_take];omega)
   have hh:¬(q.take c.toNat).head?=some 0:=fun e=>hc (.inr (.inr e))
   rw[decide_eq_false hh] at hp
   have hp:putN (num (q.take c.toNat))=c::q.take c.toNat:=by simpa using hp
   exact⟨by rw[hp,List.cons_append,List.take_append_drop],num_lt 4 _ hl⟩
theorem nums_inv:∀(m:Nat) {s:Bytes} {l:List Nat},s.length≤m→nums s=some l→catN (nI l)=s∧∀n,n∈l→n < 4294967296
 |m,s,l,hm,h=>by
  cases hg:getNum s with
  |none=>
   by_cases hs:s=[]
   ·subst hs
    rw[nums_nil] at h
    cases h
    exact⟨rfl,fun n hn=>by cases hn⟩
   ·rw[nums_none hg hs] at h
    cases h
  |some x=>
   obtain⟨n,r⟩:=x
   rw[nums_some hg] at h
   cases hr:nums r with
   |none=>rw[hr] at h;cases h
   |some k=>
    rw[hr] at h
    cases h
    have hlt:=(getNum_lt hg).1
    obtain⟨h1,h2⟩:=getNum_inv hg
    match m,hm with
    |0,hm=>omega
    |m+1,hm=>
     obtain⟨h3,h4⟩:=nums_inv m (s:=r) (by omega) hr
     refine⟨?_,fun x hx=>?_⟩
     ·rw[←h1,←h3]
      simp[catN,nI]
     ·rcases List.mem_cons.1 hx with rfl|hx
      ·exact h2
      ·exact h4 x hx
theorem textO_inv {t s r:Bytes} (h:textO t=some (s,r)):s.length≤4000∧textT s++r=t:=by
 unfold textO at h
 split at h
 ·rename_i n q e
  split at h
  ·rename_i hn
   cases h
   have hl:(q.take n).length=n:=by rw[List.length_take];omega
   unfold textT
   rw[hl,if_neg (by omega),List.append_assoc,List.take_append_drop]
   exact⟨by omega,(getNum_inv e).1⟩
  ·cases h
 ·cases h
theorem textO_some {s r:Bytes} {n:Nat} (h:getNum s=some (n,r)):textO s=if n≤4000∧n≤r.length then some (r.take n,r.drop n) else none:=by
 unfold textO
 rw[h]
theorem textO_none {s:Bytes} (h:getNum s=none):textO s=none:=by
 unfold textO
 rw[h]
def gtO:Option (Bytes×Bytes)→AV
 |some (a,b)=>.tup [.str a,.str b,.bool true]
 |none=>.tup [.str [],.str [],.bool false]
theorem cat_ok {a b:Bytes} (h:a.length+b.length < 1000000000):a.length+b.length≤9223372036854775807∧a++b=a++b:=⟨by omega,rfl⟩
set_option maxRecDepth 100000 in
set_option maxHeartbeats 8000000 in
theorem ctext_ok (s:Bytes) (hs:s.length < 1000000):APure Tryd.prog 36 [.str s] (.tup [.str (textT s),.int .i64 (if 4000 < s.length then 2 else 0)]):=by
 intro M
 refine acalls_of tabOK Tryd.func36 rfl (by decide) (by simp[Tryd.f36]) ?_
 unfold textT
 by_cases h:4000 < s.length
 ·have d1:decide ((4000:Int) < (s.length:Int))=true:=decide_eq_true (by omega)
  rw[if_pos h,if_pos h]
  repeat' (first|refine DW_VB tabs rfl d1 ?_|refine DW_A tabs rfl ?_|refine DW_nil ?_|refine W_A rfl ?_)
  exact⟨rfl,_,rfl,rfl,rfl⟩
 ·have d1:decide ((4000:Int) < (s.length:Int))=false:=decide_eq_false (by omega)
  rw[if_neg h,if_neg h]
  have kn:=number_nat (m:=s.length) (by omega)
  have hcat:=cat_ok (a:=putN s.length) (b:=s) (by have:=putN_len s.length;omega)
  repeat' (first|refine DW_VB tabs rfl d1 ?_|refine DW_A tabs rfl ?_|refine DW_nil ?_|refine W_A rfl ?_|refine DW_C rfl kn ?_|refine DW_cat rfl (hcat) ?_)
  exact⟨rfl,_,rfl,rfl,rfl⟩
set_option maxRecDepth 100000 in
set_option maxHeartbeats 8000000 in
theorem cgetText_ok (s:Bytes) (hs:s.length < 4611686018427387904):APure Tryd.prog 62 [.str s] (gtO (textO s)):=by
 intro M
 refine acalls_of tabOK Tryd.func62 rfl (by decide) (by simp[Tryd.f62]) ?_
 have kg:=getNumber_ok s hs
 cases hg:getNum s with
 |none=>
  rw[hg] at kg
  rw[textO_none hg]
  repeat' (first|refine DW_A tabs rfl ?_|refine DW_nil ?_|refine W_A rfl ?_|refine DW_C rfl kg ?_|refine W_draw mixed [0,1,2,3,4,5,6,7,8] [.P,.P,.P,.P,.P,.P,.P,.P,.P] rfl rfl (by kernel_rfl) ?_)
  exact⟨rfl,_,rfl,rfl,rfl⟩
 |some p=>
  obtain⟨n,r⟩:=p
  rw[hg] at kg
  have lr:=(getNum_lt hg).1
  by_cases h1:n≤4000
  ·have d1:decide ((4000:Int) < (n:Int))=false:=decide_eq_false (by omega)
   by_cases h2:n≤r.length
   ·have d2:decide ((r.length:Int) < (n:Int))=false:=decide_eq_false (by omega)
    rw[textO_some hg,if_pos ⟨h1,h2⟩]
    have s1:(0:Int)≤0∧(0:Int)≤(n:Int)∧(n:Int)≤(r.length:Int)∧(r.take (n:Int).toNat).drop (0:Int).toNat=r.take n:=⟨by omega,by omega,by omega,by simp⟩
    have s2:(0:Int)≤(n:Int)∧(n:Int)≤(r.length:Int)∧(r.length:Int)≤(r.length:Int)∧(r.take (r.length:Int).toNat).drop (n:Int).toNat=r.drop n:=⟨by omega,by omega,by omega,by simp⟩
    repeat' (first|refine DW_VB tabs rfl (by first|exact d1|exact d2) ?_|refine DW_A tabs rfl ?_|refine DW_nil ?_|refine W_A rfl ?_|refine DW_C rfl kg ?_|refine DW_sub tabOK rfl (s1) ?_|refine DW_sub tabOK rfl (s2) ?_|refine W_draw mixed [0,1,2,3,4,5,6,7,8] [.P,.P,.P,.P,.P,.P,.P,.P,.P] rfl rfl (by kernel_rfl) ?_)
    exact⟨rfl,_,rfl,rfl,rfl⟩
   ·have d2:decide ((r.length:Int) < (n:Int))=true:=decide_eq_true (by omega)
    rw[textO_some hg,if_neg (fun h=>h2 h.2)]
    repeat' (first|refine DW_VB tabs rfl (by first|exact d1|exact d2) ?_|refine DW_A tabs rfl ?_|refine DW_nil ?_|refine W_A rfl ?_|refine DW_C rfl kg ?_|refine W_draw mixed [0,1,2,3,4,5,6,7,8] [.P,.P,.P,.P,.P,.P,.P,.P,.P] rfl rfl (by kernel_rfl) ?_)
    exact⟨rfl,_,rfl,rfl,rfl⟩
  ·have d1:decide ((4000:Int) < (n:Int))=true:=decide_eq_true (by omega)
   rw[textO_some hg,if_neg (fun h=>h1 h.1)]
   repeat' (first|refine DW_VB tabs rfl d1 ?_|refine DW_A tabs rfl ?_|refine DW_nil ?_|refine W_A rfl ?_|refine DW_C rfl kg ?_|refine W_draw mixed [0,1,2,3,4,5,6,7,8] [.P,.P,.P,.P,.P,.P,.P,.P,.P] rfl rfl (by kernel_rfl) ?_)
   exact⟨rfl,_,rfl,rfl,rfl⟩
def txA (l:List Bytes) (t:Tag):AV:=.sl 1 (l.map AV.str) t
theorem tx_cells (l:List Bytes):∀x,x∈l.map AV.str→∀c,c∈x.cells→Closed c:=by
 intro x hx c hc
 obtain⟨s,_,rfl⟩:=List.mem_map.1 hx
 have:c∈[AV.str s]:=hc
 exact closed1 closed_str c this
theorem closed_tx (l:List Bytes) {t:Tag} (h:t=.none∨t=.full):Closed (txA l t):=closed_sl h (fun x hx=>by obtain⟨s,_,rfl⟩:=List.mem_map.1 hx;exact closed_str) (tx_cells l)
end Go.Proofs.YtbcaejhhgkcgpaaDoor
