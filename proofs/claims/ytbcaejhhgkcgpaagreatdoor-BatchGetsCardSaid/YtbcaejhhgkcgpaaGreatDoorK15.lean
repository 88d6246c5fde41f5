/- Parts of the proof, one behind the other. No further condition. -/
import Derived.Test.YtbcaejhhgkcgpaaGreatDoorK14
set_option linter.unusedVariables false
set_option linter.unusedSimpArgs false
namespace Go.Proofs.YtbcaejhhgkcgpaaGreatDoor
open Go.Ab
set_option maxRecDepth 100000 in
set_option maxHeartbeats 8000000 in
theorem rPutM_ok (m:Mt) (hl:m.ch.length < 1000000):APure Tryz.prog 112 [m.av] (strA (putM m)):=by
 refine pure_sub (closed1 (closed_mt m)) (closed_strA _) ?_
 refine acalls_of tabOK Tryz.func112 rfl (by decide) (by simp[Tryz.f112]) ?_
 have lc:=len_map (fun n=>AV.int .i64 n) m.ch
 have k1:=rmIs_ok m hl
 unfold putM
 cases h:isM m
 ·rw[h] at k1
  rw[if_neg (by simp)]
  repeat' (first|refine DW_VI tabs rfl lc ?_|refine DW_A tabs rfl ?_|refine DW_nil ?_|refine W_A rfl ?_|refine DW_C rfl k1 ?_|refine DW_row tabOK rfl ?_|refine DW_app tabOK rfl rfl (by simp;omega) (by simp;omega) ?_|refine DW_app0 tabOK rfl (by simp;omega) (by simp;omega) ?_)
  exact⟨rfl,_,rfl,_,rfl,SubC.of_closed (closed_strA ([],1))⟩
 ·rw[h] at k1
  rw[if_pos rfl]
  have hin:=mtL_in h
  have hlen:=mtL_len h
  repeat' (first|refine DW_VI tabs rfl lc ?_|refine DW_A tabs rfl ?_|refine DW_nil ?_|refine W_A rfl ?_|refine DW_C rfl k1 ?_|refine DW_row tabOK rfl ?_|refine DW_app tabOK rfl rfl (by simp;omega) (by simp;omega) ?_|refine DW_app0 tabOK rfl (by simp;omega) (by simp;omega) ?_)
  have hl3:((([AV.int .i64 m.size,AV.int .i64 m.mode,AV.int .i64 (m.ch.length:Int)]++m.ch.map fun n=>AV.int .i64 n).length:Nat):Int)=((mtL m).length:Int):=by simp[mtL]
  refine W_count (mtL m).length (fun i f N=>N=⟨1,[]⟩∧True∧f=⟨[(4,iA (mtL m) .none),(5,.str (catN ((mtL m).take i))),(6,.int .i64 (i:Int))],[]⟩) (Nat.zero_le _) ⟨rfl,trivial,rfl⟩ (Joint.le ?_ (Mem.le_nil rfl)) ?_
  ·have h22:∀t,Sub (.sl 1 ([AV.int .i64 m.size,AV.int .i64 m.mode,AV.int .i64 (m.ch.length:Int)]++m.ch.map fun n=>AV.int .i64 n) t) (iA (mtL m) .none):=by
    intro t
    unfold iA mtL
    rw[List.map_append]
    exact Sub.untag
   repeat' (first|exact AF.le_nil rfl|refine AF.le_cons rfl ?_|refine AF.le_sub (h22 _) ?_)
  rintro i f N hi ⟨rfl,_,rfl⟩
  have lm:=len_map (fun n=>AV.int .i64 n) (mtL m)
  by_cases h1:i < (mtL m).length
  ·have d1:decide ((i:Int) < ((mtL m).length:Int))=true:=by simp;omega
   have hx:(mtL m)[i]? =some (mtL m)[i]:=List.getElem?_eq_getElem h1
   have fi:=wrap_succ (i:=i) (by omega)
   have ht:=take_succ hx
   have hm:=hin _ (List.getElem_mem h1)
   generalize (mtL m)[i]=x at hx ht hm
   have kx:=rNumber_nat (m:=x.toNat) (by omega)
   rw[show ((x.toNat:Nat):Int)=x by omega] at kx
   have lx:=putN_len x.toNat
   have lc2:=catN_len ((mtL m).take i)
   rw[List.length_take] at lc2
   have hcat:(catN ((mtL m).take i)).length+(putN x.toNat).length≤9223372036854775807∧catN ((mtL m).take i)++putN x.toNat=catN ((mtL m).take (i+1)):=⟨by omega,(catN_take ht).symm⟩
   unfold iA
   repeat' (first|refine DW_VB tabs rfl d1 ?_|refine DW_VI tabs rfl (by first|exact fi|exact lm) ?_|refine DW_A tabs rfl ?_|refine DW_nil ?_|refine W_A rfl ?_|refine DW_C rfl kx ?_|refine DW_ix tabOK rfl (ixN hx) ?_|refine DW_cat rfl (hcat) ?_|refine DW_row tabOK rfl ?_|refine DW_app tabOK rfl rfl (by simp;omega) (by simp;omega) ?_|refine DW_app0 tabOK rfl (by simp;omega) (by simp;omega) ?_)
   refine⟨h1,_,_,⟨rfl,trivial,rfl⟩,Joint.le ?_ (Mem.le_refl _)⟩
   repeat (refine AF.le_cons rfl ?_)
   exact AF.le_nil rfl
  ·have d1:decide ((i:Int) < ((mtL m).length:Int))=false:=by simp;omega
   obtain rfl:i=(mtL m).length:=by omega
   rw[List.take_length]
   repeat' (first|refine DW_VB tabs rfl d1 ?_|refine DW_VI tabs rfl lm ?_|refine DW_A tabs rfl ?_|refine DW_nil ?_|refine W_A rfl ?_|refine DW_row tabOK rfl ?_|refine DW_app tabOK rfl rfl (by simp;omega) (by simp;omega) ?_|refine DW_app0 tabOK rfl (by simp;omega) (by simp;omega) ?_)
   exact⟨rfl,_,rfl,_,rfl,SubC.of_closed (closed_strA (catN (mtL m),0))⟩
set_option maxRecDepth 100000 in
set_option maxHeartbeats 8000000 in
theorem rValue_ok (m:Mt) (no:Bool) (hl:m.ch.length < 1000000):APure Tryz.prog 58 [m.av,.bool no] (strA (valueM m no)):=by
 refine pure_sub (closed2 (closed_mt m) closed_bool) (closed_strA _) ?_
 refine acalls_of tabOK Tryz.func58 rfl (by decide) (by simp[Tryz.f58]) ?_
 have k1:=rPutM_ok m hl
 unfold valueM
 cases no
 ·unfold putM at k1 ⊢
  cases h:isM m
  ·rw[h,if_neg (by simp)] at k1
   rw[if_neg (by simp),if_neg (by simp)]
   repeat' (first|refine DW_A tabs rfl ?_|refine DW_nil ?_|refine W_A rfl ?_|refine DW_C rfl k1 ?_)
   exact⟨rfl,_,rfl,_,rfl,SubC.of_closed (closed_strA ([],1))⟩
  ·rw[h,if_pos rfl] at k1
   rw[if_neg (by simp),if_pos rfl]
   have lb:=catN_len (mtL m)
   have lm:=mtL_len h
   have hcat:[1].length+(catN (mtL m)).length≤9223372036854775807∧[1]++catN (mtL m)=1::catN (mtL m):=⟨by simp;omega,rfl⟩
   repeat' (first|refine DW_A tabs rfl ?_|refine DW_nil ?_|refine W_A rfl ?_|refine DW_C rfl k1 ?_|refine DW_cat rfl (hcat) ?_)
   exact⟨rfl,_,rfl,_,rfl,SubC.of_closed (closed_strA (1::catN (mtL m),0))⟩
 ·rw[if_pos rfl]
  repeat' (first|refine DW_A tabs rfl ?_|refine DW_nil ?_|refine W_A rfl ?_)
  exact⟨rfl,_,rfl,_,rfl,SubC.of_closed (closed_strA ([0],0))⟩
end Go.Proofs.YtbcaejhhgkcgpaaGreatDoor
namespace Go.Proofs.YtbcaejhhgkcgpaaGreatDoor
open Go.Ab
def textT (s:Bytes):Bytes:=if 4000 < s.length then [] else putN s.length++s
def textO (t:Bytes):Option (Bytes×Bytes):=match getNum t with
 |some (n,r)=>if n≤4000∧n≤r.length then some (r.take n,r.drop n) else none
 |none=>none
theorem textO_put {s r:Bytes} (h:s.length≤4000):textO (textT s++r)=some (s,r):=by
 unfold textO textT
 rw[if_neg (by omega),List.append_assoc,getNum_put (by omega)]
 show (if _ then _ else _)=_
 rw[if_pos ⟨h,by simp⟩,List.take_left,List.drop_left]
theorem getNum_inv {s r:Bytes} {n:Nat} (h:getNum s=some (n,r)):putN n++r=s∧n < 4294967296:=by
 cases s with
 |nil=>cases h
 |cons c q=>
  by_cases hc:4 < c.toNat∨q.length < c.toNat∨(q.take c.toNat).head?=some 0
  ·rw[getNum_none hc] at h
   cases h
  ·rw[getNum_some hc] at h
   cases h
   have hl:(q.take c.toNat).length≤4:=by rw[List.length_take];omega
   have hp:=put_num (c:=c) hl (by rw[List.length_take];omega)
   have hh:¬(q.take c.toNat).head?=some 0:=fun e=>hc (.inr (.inr e))
   rw[decide_eq_false hh] at hp
   have hp:putN (num (q.take c.toNat))=c::q.take c.toNat:=by simpa using hp
   exact⟨by rw[hp,List.cons_append,List.take_append_drop],num_lt 4 _ hl⟩
theorem nums_inv:∀(m:Nat) {s:Bytes} {l:List Nat},s.length≤m→nums s=some l→catN (nI l)=s∧∀n,n∈l→n < 4294967296
 |m,s,l,hm,h=>by
  cases hg:getNum s with
  |none=>
   by_cases hs:s=[]
   ·subst hs
    rw[nums_nil] at h
    cases h
    exact⟨rfl,fun n hn=>by cases hn⟩
   ·rw[nums_none hg hs] at h
    cases h
  |some x=>
   obtain⟨n,r⟩:=x
   rw[nums_some hg] at h
   cases hr:nums r with
   |none=>rw[hr] at h;cases h
   |some k=>
    rw[hr] at h
    cases h
    have hlt:=(getNum_lt hg).1
    obtain⟨h1,h2⟩:=getNum_inv hg
    match m,hm with
    |0,hm=>omega
    |m+1,hm=>
     obtain⟨h3,h4⟩:=nums_inv m (s:=r) (by omega) hr
     refine⟨?_,fun x hx=>?_⟩
     ·rw[←h1,←h3]
      simp[catN,nI]
     ·rcases List.mem_cons.1 hx with rfl|hx
      ·exact h2
      ·exact h4 x hx
theorem textO_inv {t s r:Bytes} (h:textO t=some (s,r)):s.length≤4000∧textT s++r=t:=by
 unfold textO at h
 split at h
 ·rename_i n q e
  split at h
  ·rename_i hn
   cases h
   have hl:(q.take n).length=n:=by rw[List.length_take];omega
   unfold textT
   rw[hl,if_neg (by omega),List.append_assoc,List.take_append_drop]
   exact⟨by omega,(getNum_inv e).1⟩
  ·cases h
 ·cases h
theorem textO_some {s r:Bytes} {n:Nat} (h:getNum s=some (n,r)):textO s=if n≤4000∧n≤r.length then some (r.take n,r.drop n) else none:=by
 unfold textO
 rw[h]
theorem textO_none {s:Bytes} (h:getNum s=none):textO s=none:=by
 unfold textO
 rw[h]
def gtO:Option (Bytes×Bytes)→AV
 |some (a,b)=>.tup [.str a,.str b,.bool true]
 |none=>.tup [.str [],.str [],.bool false]
theorem cat_ok {a b:Bytes} (h:a.length+b.length < 1000000000):a.length+b.length≤9223372036854775807∧a++b=a++b:=⟨by omega,rfl⟩
set_option maxRecDepth 100000 in
set_option maxHeartbeats 8000000 in
theorem ctext_ok (s:Bytes) (hs:s.length < 1000000):APure Tryz.prog 111 [.str s] (.tup [.str (textT s),.int .i64 (if 4000 < s.length then 2 else 0)]):=by
 intro M
 refine acalls_of tabOK Tryz.func111 rfl (by decide) (by simp[Tryz.f111]) ?_
 unfold textT
 by_cases h:4000 < s.length
 ·have d1:decide ((4000:Int) < (s.length:Int))=true:=decide_eq_true (by omega)
  rw[if_pos h,if_pos h]
  repeat' (first|refine DW_VB tabs rfl d1 ?_|refine DW_A tabs rfl ?_|refine DW_nil ?_|refine W_A rfl ?_)
  exact⟨rfl,_,rfl,rfl,rfl⟩
 ·have d1:decide ((4000:Int) < (s.length:Int))=false:=decide_eq_false (by omega)
  rw[if_neg h,if_neg h]
  have kn:=number_nat (m:=s.length) (by omega)
  have hcat:=cat_ok (a:=putN s.length) (b:=s) (by have:=putN_len s.length;omega)
  repeat' (first|refine DW_VB tabs rfl d1 ?_|refine DW_A tabs rfl ?_|refine DW_nil ?_|refine W_A rfl ?_|refine DW_C rfl kn ?_|refine DW_cat rfl (hcat) ?_)
  exact⟨rfl,_,rfl,rfl,rfl⟩
set_option maxRecDepth 100000 in
set_option maxHeartbeats 8000000 in
theorem rtext_ok (s:Bytes) (hs:s.length < 1000000):APure Tryz.prog 113 [.str s] (.tup [.str (textT s),.int .i64 (if 4000 < s.length then 2 else 0)]):=by
 intro M
 refine acalls_of tabOK Tryz.func113 rfl (by decide) (by simp[Tryz.f113]) ?_
 unfold textT
 by_cases h:4000 < s.length
 ·have d1:decide ((4000:Int) < (s.length:Int))=true:=decide_eq_true (by omega)
  rw[if_pos h,if_pos h]
  repeat' (first|refine DW_VB tabs rfl d1 ?_|refine DW_A tabs rfl ?_|refine DW_nil ?_|refine W_A rfl ?_)
  exact⟨rfl,_,rfl,rfl,rfl⟩
 ·have d1:decide ((4000:Int) < (s.length:Int))=false:=decide_eq_false (by omega)
  rw[if_neg h,if_neg h]
  have kn:=rNumber_nat (m:=s.length) (by omega)
  have hcat:=cat_ok (a:=putN s.length) (b:=s) (by have:=putN_len s.length;omega)
  repeat' (first|refine DW_VB tabs rfl d1 ?_|refine DW_A tabs rfl ?_|refine DW_nil ?_|refine W_A rfl ?_|refine DW_C rfl kn ?_|refine DW_cat rfl (hcat) ?_)
  exact⟨rfl,_,rfl,rfl,rfl⟩
set_option maxRecDepth 100000 in
set_option maxHeartbeats 8000000 in
theorem cgetText_ok (s:Bytes) (hs:s.length < 4611686018427387904):APure Tryz.prog 155 [.str s] (gtO (textO s)):=by
 intro M
 refine acalls_of tabOK Tryz.func155 rfl (by decide) (by simp[Tryz.f155]) ?_
 have kg:=getNumber_ok s hs
 cases hg:getNum s with
 |none=>
  rw[hg] at kg
  rw[textO_none hg]
  repeat' (first|refine DW_A tabs rfl ?_|refine DW_nil ?_|refine W_A rfl ?_|refine DW_C rfl kg ?_|refine W_draw mixed [0,1,2,3,4,5,6,7,8] [.P,.P,.P,.P,.P,.P,.P,.P,.P] rfl rfl (by kernel_rfl) ?_)
  exact⟨rfl,_,rfl,rfl,rfl⟩
 |some p=>
  obtain⟨n,r⟩:=p
  rw[hg] at kg
  have lr:=(getNum_lt hg).1
  by_cases h1:n≤4000
  ·have d1:decide ((4000:Int) < (n:Int))=false:=decide_eq_false (by omega)
   by_cases h2:n≤r.length
   ·have d2:decide ((r.length:Int) < (n:Int))=false:=decide_eq_false (by omega)
    rw[textO_some hg,if_pos ⟨h1,h2⟩]
    have s1:(0:Int)≤0∧(0:Int)≤(n:Int)∧(n:Int)≤(r.length:Int)∧(r.take (n:Int).toNat).drop (0:Int).toNat=r.take n:=⟨by omega,by omega,by omega,by simp⟩
    have s2:(0:Int)≤(n:Int)∧(n:Int)≤(r.length:Int)∧(r.length:Int)≤(r.length:Int)∧(r.take (r.length:Int).toNat).drop (n:Int).toNat=r.drop n:=⟨by omega,by omega,by omega,by simp⟩
    repeat' (first|refine DW_VB tabs rfl (by first|exact d1|exact d2) ?_|refine DW_A tabs rfl ?_|refine DW_nil ?_|refine W_A rfl ?_|refine DW_C rfl kg ?_|refine DW_sub tabOK rfl (s1) ?_|refine DW_sub tabOK rfl (s2) ?_|refine W_draw mixed [0,1,2,3,4,5,6,7,8] [.P,.P,.P,.P,.P,.P,.P,.P,.P] rfl rfl (by kernel_rfl) ?_)
    exact⟨rfl,_,rfl,rfl,rfl⟩
   ·have d2:decide ((r.length:Int) < (n:Int))=true:=decide_eq_true (by omega)
    rw[textO_some hg,if_neg (fun h=>h2 h.2)]
    repeat' (first|refine DW_VB tabs rfl (by first|exact d1|exact d2) ?_|refine DW_A tabs rfl ?_|refine DW_nil ?_|refine W_A rfl ?_|refine DW_C rfl kg ?_|refine W_draw mixed [0,1,2,3,4,5,6,7,8] [.P,.P,.P,.P,.P,.P,.P,.P,.P] rfl rfl (by kernel_rfl) ?_)
    exact⟨rfl,_,rfl,rfl,rfl⟩
  ·have d1:decide ((4000:Int) < (n:Int))=true:=decide_eq_true (by omega)
   rw[textO_some hg,if_neg (fun h=>h1 h.1)]
   repeat' (first|refine DW_VB tabs rfl d1 ?_|refine DW_A tabs rfl ?_|refine DW_nil ?_|refine W_A rfl ?_|refine DW_C rfl kg ?_|refine W_draw mixed [0,1,2,3,4,5,6,7,8] [.P,.P,.P,.P,.P,.P,.P,.P,.P] rfl rfl (by kernel_rfl) ?_)
   exact⟨rfl,_,rfl,rfl,rfl⟩
set_option maxRecDepth 100000 in
set_option maxHeartbeats 8000000 in
theorem rgetText_ok (s:Bytes) (hs:s.length < 4611686018427387904):APure Tryz.prog 99 [.str s] (gtO (textO s)):=by
 intro M
 refine acalls_of tabOK Tryz.func99 rfl (by decide) (by simp[Tryz.f99]) ?_
 have kg:=rGetNumber_ok s hs
 cases hg:getNum s with
 |none=>
  rw[hg] at kg
  rw[textO_none hg]
  repeat' (first|refine DW_A tabs rfl ?_|refine DW_nil ?_|refine W_A rfl ?_|refine DW_C rfl kg ?_|refine W_draw mixed [0,1,2,3,4,5,6,7,8] [.P,.P,.P,.P,.P,.P,.P,.P,.P] rfl rfl (by kernel_rfl) ?_)
  exact⟨rfl,_,rfl,rfl,rfl⟩
 |some p=>
  obtain⟨n,r⟩:=p
  rw[hg] at kg
  have lr:=(getNum_lt hg).1
  by_cases h1:n≤4000
  ·have d1:decide ((4000:Int) < (n:Int))=false:=decide_eq_false (by omega)
   by_cases h2:n≤r.length
   ·have d2:decide ((r.length:Int) < (n:Int))=false:=decide_eq_false (by omega)
    rw[textO_some hg,if_pos ⟨h1,h2⟩]
    have s1:(0:Int)≤0∧(0:Int)≤(n:Int)∧(n:Int)≤(r.length:Int)∧(r.take (n:Int).toNat).drop (0:Int).toNat=r.take n:=⟨by omega,by omega,by omega,by simp⟩
    have s2:(0:Int)≤(n:Int)∧(n:Int)≤(r.length:Int)∧(r.length:Int)≤(r.length:Int)∧(r.take (r.length:Int).toNat).drop (n:Int).toNat=r.drop n:=⟨by omega,by omega,by omega,by simp⟩
    repeat' (first|refine DW_VB tabs rfl (by first|exact d1|exact d2) ?_|refine DW_A tabs rfl ?_|refine DW_nil ?_|refine W_A rfl ?_|refine DW_C rfl kg ?_|refine DW_sub tabOK rfl (s1) ?_|refine DW_sub tabOK rfl (s2) ?_|refine W_draw mixed [0,1,2,3,4,5,6,7,8] [.P,.P,.P,.P,.P,.P,.P,.P,.P] rfl rfl (by kernel_rfl) ?_)
    exact⟨rfl,_,rfl,rfl,rfl⟩
   ·have d2:decide ((r.length:Int) < (n:Int))=true:=decide_eq_true (by omega)
    rw[textO_some hg,if_neg (fun h=>h2 h.2)]
    repeat' (first|refine DW_VB tabs rfl (by first|exact d1|exact d2) ?_|refine DW_A tabs rfl ?_|refine DW_nil ?_|refine W_A rfl ?_|refine DW_C rfl kg ?_|refine W_draw mixed [0,1,2,3,4,5,6,7,8] [.P,.P,.P,.P,.P,.P,.P,.P,.P] rfl rfl (by kernel_rfl) ?_)
    exact⟨rfl,_,rfl,rfl,rfl⟩
  ·have d1:decide ((4000:Int) < (n:Int))=true:=decide_eq_true (by omega)
   rw[textO_some hg,if_neg (fun h=>h1 h.1)]
   repeat' (first|refine DW_VB tabs rfl d1 ?_|refine DW_A tabs rfl ?_|refine DW_nil ?_|refine W_A rfl ?_|refine DW_C rfl kg ?_|refine W_draw mixed [0,1,2,3,4,5,6,7,8] [.P,.P,.P,.P,.P,.P,.P,.P,.P] rfl rfl (by kernel_rfl) ?_)
   exact⟨rfl,_,rfl,rfl,rfl⟩
def txA (l:List Bytes) (t:Tag):AV:=.sl 1 (l.map AV.str) t
theorem tx_cells (l:List Bytes):∀x,x∈l.map AV.str→∀c,c∈x.cells→Closed c:=by
 intro x hx c hc
 obtain⟨s,_,rfl⟩:=List.mem_map.1 hx
 have:c∈[AV.str s]:=hc
 exact closed1 closed_str c this
theorem closed_tx (l:List Bytes) {t:Tag} (h:t=.none∨t=.full):Closed (txA l t):=closed_sl h (fun x hx=>by obtain⟨s,_,rfl⟩:=List.mem_map.1 hx;exact closed_str) (tx_cells l)
end Go.Proofs.YtbcaejhhgkcgpaaGreatDoor
namespace Go.Proofs.YtbcaejhhgkcgpaaGreatDoor
open Go.Ab
def catT (l:List Bytes):Bytes:=l.flatMap textT
def rowT (l:List Bytes):Bytes:=putN l.length++catT l
def rowTE (l:List Bytes):Bytes×Int:=if 1000 < l.length∨∃t,t∈l∧4000 < t.length then ([],2) else (rowT l,0)
def getTs:Nat→Bytes→Option (List Bytes×Bytes)
 |0,s=>some ([],s)
 |n+1,s=>match textO s with
  |none=>none
  |some (t,r)=>match getTs n r with
   |none=>none
   |some (l,q)=>some (t::l,q)
def rowO (s:Bytes):Option (List Bytes×Bytes):=match getNum s with
 |none=>none
 |some (n,r)=>if n≤1000 then getTs n r else none
theorem getTs_succ (n:Nat) (s:Bytes):getTs (n+1) s=match textO s with
  |none=>none
  |some (t,r)=>match getTs n r with
   |none=>none
   |some (l,q)=>some (t::l,q):=rfl
theorem getTs_put:∀(l:List Bytes) (r:Bytes),(∀t,t∈l→t.length≤4000)→getTs l.length (catT l++r)=some (l,r)
 |[],r,_=>rfl
 |t::l,r,h=>by
  have e:catT (t::l)++r=textT t++(catT l++r):=by simp[catT]
  rw[e,List.length_cons,getTs_succ,textO_put (h t (by simp))]
  show (match getTs l.length (catT l++r) with
   |none=>none
   |some (l,q)=>some (t::l,q))=_
  rw[getTs_put l r (fun x hx=>h x (by simp[hx]))]
theorem rowO_put {l:List Bytes} (h:(rowTE l).2=0) (r:Bytes):rowO ((rowTE l).1++r)=some (l,r):=by
 unfold rowTE at h ⊢
 split at h
 ·cases h
 ·rename_i h1
  rw[if_neg h1]
  have hl:l.length≤1000:=by
   rcases Nat.lt_or_ge 1000 l.length with h2|h2
   ·exact absurd (.inl h2) h1
   ·exact h2
  have ht:∀t,t∈l→t.length≤4000:=by
   intro t hm
   rcases Nat.lt_or_ge 4000 t.length with h2|h2
   ·exact absurd (.inr ⟨t,hm,h2⟩) h1
   ·exact h2
  unfold rowO rowT
  rw[List.append_assoc,getNum_put (by omega)]
  show (if _ then _ else _)=_
  rw[if_pos hl,getTs_put l r ht]
theorem getTs_inv:∀(n:Nat) {s r:Bytes} {l:List Bytes},getTs n s=some (l,r)→l.length=n∧catT l++r=s∧∀t,t∈l→t.length≤4000
 |0,s,r,l,h=>by
  cases h
  exact⟨rfl,rfl,fun t ht=>by cases ht⟩
 |n+1,s,r,l,h=>by
  unfold getTs at h
  split at h
  ·cases h
  ·rename_i t q e
   split at h
   ·cases h
   ·rename_i l' q' e2
    cases h
    obtain⟨h1,h2⟩:=textO_inv e
    obtain⟨h3,h4,h5⟩:=getTs_inv n e2
    refine⟨by simp[h3],?_,fun x hx=>?_⟩
    ·rw[←h2,←h4]
     simp[catT]
    ·rcases List.mem_cons.1 hx with rfl|hx
     ·exact h1
     ·exact h5 x hx
theorem rowO_inv {s r:Bytes} {l:List Bytes} (h:rowO s=some (l,r)):rowTE l=(rowT l,0)∧rowT l++r=s∧l.length≤1000∧∀t,t∈l→t.length≤4000:=by
 unfold rowO at h
 split at h
 ·cases h
 ·rename_i n q e
  split at h
  ·rename_i hn
   obtain⟨h1,h2,h3⟩:=getTs_inv n h
   refine⟨?_,?_,by omega,h3⟩
   ·unfold rowTE
    rw[if_neg]
    rintro (h4|⟨t,ht,h4⟩)
    ·omega
    ·have:=h3 t ht
     omega
   ·unfold rowT
    rw[h1,List.append_assoc,h2]
    exact (getNum_inv e).1
  ·cases h
def chT (c:Ch):List Bytes:=[c.path,(valueM c.meta_ c.gone).1]
def chsT (l:List Ch):List Bytes:=l.flatMap chT
def putC (l:List Ch):Bytes×Int:=if batchB l=true then rowTE (chsT l) else ([],1)
def chsO:List Bytes→Option (List Ch)
 |p::v::r=>if (readM v).2.2=0 then (match chsO r with
  |none=>none
  |some l=>some (⟨p,(readM v).2.1,(readM v).1⟩::l)) else none
 |[]=>some []
 |[_]=>none
def getC (s:Bytes):Option (List Ch):=match rowO s with
 |none=>none
 |some (l,r)=>if r=[]∧l.length%2=0 then (match chsO l with
  |none=>none
  |some m=>if batchB m=true then some m else none) else none
theorem bmay_parts {c:Ch} (h:mayB c=true):c.path≠[]∧isPathB c.path=true∧isM c.meta_=true∧(c.gone=true→c.meta_=zeroMt):=by
 unfold mayB at h
 simp only[Bool.and_eq_true,Bool.not_eq_true',beq_eq_false_iff_ne,ne_eq,Bool.or_eq_true] at h
 obtain⟨⟨⟨h1,h2⟩,h3⟩,h4⟩:=h
 refine⟨h1,h2,h3,fun hg=>?_⟩
 rcases h4 with h4|h4
 ·rw[hg] at h4
  cases h4
 ·unfold zeroB at h4
  simp only[Bool.and_eq_true,decide_eq_true_eq] at h4
  obtain⟨⟨a,b⟩,c'⟩:=h4
  have e:c.meta_.ch=[]:=List.eq_nil_of_length_eq_zero (by omega)
  cases hm:c.meta_ with
  |mk s m k=>
   rw[hm] at a b e
   simp only at a b e
   subst a b e
   rfl
theorem chsO_put:∀(l:List Ch),(∀c,c∈l→mayB c=true)→chsO (chsT l)=some l
 |[],_=>rfl
 |c::r,h=>by
  obtain⟨_,_,h3,h4⟩:=bmay_parts (h c (by simp))
  have e:chsT (c::r)=c.path::(valueM c.meta_ c.gone).1::chsT r:=rfl
  rw[e]
  unfold chsO
  rw[chsO_put r (fun x hx=>h x (by simp[hx]))]
  obtain⟨p,g,m⟩:=c
  cases g
  ·rw[readM_there h3]
   rfl
  ·rw[readM_gone,←h4 rfl]
   rfl
theorem bcatN_len:∀l:List Int,(catN l).length≤5*l.length
 |[]=>Nat.le_refl _
 |x::r=>by
  have h1:=bcatN_len r
  have h2:=putN_len x.toNat
  have e:catN (x::r)=putN x.toNat++catN r:=by simp[catN]
  rw[e,List.length_append,List.length_cons]
  omega
theorem value_len {m:Mt} {g:Bool} (h:isM m=true):(valueM m g).1.length≤100:=by
 unfold valueM putM
 have hl:m.ch.length≤16:=by
  unfold isM at h
  simp only[Bool.and_eq_true,decide_eq_true_eq] at h
  exact h.2.2
 have:=bcatN_len (mtL m)
 have e:(mtL m).length=3+m.ch.length:=by simp[mtL];omega
 rw[e] at this
 rw[if_pos h]
 cases g
 ·rw[if_neg (by simp),if_pos rfl]
  show (1::catN (mtL m)).length≤100
  rw[List.length_cons]
  omega
 ·rw[if_pos rfl]
  simp
theorem bpath_len {p:Bytes} (h:isPathB p=true):p.length≤4000:=by
 unfold isPathB at h
 simp at h
 rcases h with h1|h1
 ·rw[h1]
  simp
 ·omega
theorem chsT_len:∀l:List Ch,(chsT l).length=2*l.length
 |[]=>rfl
 |c::r=>by
  have:chsT (c::r)=c.path::(valueM c.meta_ c.gone).1::chsT r:=rfl
  rw[this,List.length_cons,List.length_cons,chsT_len r,List.length_cons]
  omega
theorem put_batch {l:List Ch} (h:batchB l=true):putC l=(rowT (chsT l),0):=by
 obtain⟨_,h2,h3,_⟩:=batch_rise h
 unfold putC rowTE
 rw[if_pos h,if_neg]
 rintro (h4|⟨t,ht,h4⟩)
 ·rw[chsT_len] at h4
  omega
 ·obtain⟨c,hc,ht⟩:=List.mem_flatMap.1 ht
  obtain⟨_,h5,h6,_⟩:=bmay_parts (h3 c hc)
  simp only[chT,List.mem_cons,List.not_mem_nil,or_false] at ht
  rcases ht with rfl|rfl
  ·have:=bpath_len h5
   omega
  ·have:=value_len (g:=c.gone) h6
   omega
theorem get_put_batch {l:List Ch} (h:batchB l=true):getC (rowT (chsT l))=some l:=by
 have hp:=put_batch h
 have hr:rowTE (chsT l)=(rowT (chsT l),0):=by
  have:=hp
  unfold putC at this
  rwa [if_pos h] at this
 have h1:=rowO_put (l:=chsT l) (by rw[hr]) []
 rw[hr,List.append_nil] at h1
 unfold getC
 rw[h1]
 show (if _ then _ else _)=_
 rw[if_pos ⟨rfl,by rw[chsT_len];omega⟩,chsO_put l (batch_rise h).2.2.1]
 show (if _ then _ else _)=_
 rw[if_pos h]
theorem getM_inv {r:Bytes} (hg:(getM r).2=0):isM (getM r).1=true∧catN (mtL (getM r).1)=r:=by
 unfold getM at hg ⊢
 cases hn:nums r with
 |none=>rw[hn] at hg;cases hg
 |some l=>
  rw[hn] at hg
  match l,hn,hg with
  |[],_,hg=>cases hg
  |[_],_,hg=>cases hg
  |[_,_],_,hg=>cases hg
  |a::b::c::l,hn,hg=>
   have e2:getMo (some (a::b::c::l))=mtOf a b c l:=rfl
   rw[e2] at hg ⊢
   unfold mtOf at hg ⊢
   split at hg
   ·rename_i h5
    rw[if_pos h5]
    obtain⟨h6,_⟩:=nums_inv r.length (Nat.le_refl _) hn
    refine⟨h5.2,?_⟩
    rw[←h6]
    unfold mtL
    simp[nI,h5.1]
   ·cases hg
theorem readM_inv {v:Bytes} (h:(readM v).2.2=0):(valueM (readM v).1 (readM v).2.1).1=v∧isM (readM v).1=true:=by
 match v,h with
 |[],h=>cases h
 |c::r,h=>
  have e:readM (c::r)=if c=0∧r=[] then (zeroMt,true,0) else if c=1 then ((getM r).1,false,(getM r).2) else (zeroMt,false,30):=rfl
  rw[e] at h ⊢
  split at h
  ·rename_i h1
   obtain⟨rfl,rfl⟩:=h1
   exact⟨rfl,rfl⟩
  ·rename_i h1
   rw[if_neg h1]
   split at h
   ·rename_i h2
    subst h2
    rw[if_pos rfl]
    have hg:(getM r).2=0:=h
    obtain⟨h3,h4⟩:=getM_inv hg
    refine⟨?_,h3⟩
    show (valueM (getM r).1 false).1=1::r
    unfold valueM putM
    rw[if_neg (by simp),if_pos h3,if_pos rfl,h4]
   ·cases h
theorem chsO_inv:∀(l:List Bytes) {m:List Ch},chsO l=some m→chsT m=l
 |[],m,h=>by
  cases h
  rfl
 |[_],m,h=>by cases h
 |p::v::r,m,h=>by
  unfold chsO at h
  split at h
  ·rename_i h1
   split at h
   ·cases h
   ·rename_i m' e
    cases h
    have e2:chsT (⟨p,(readM v).2.1,(readM v).1⟩::m')=p::(valueM (readM v).1 (readM v).2.1).1::chsT m':=rfl
    rw[e2,(readM_inv h1).1,chsO_inv r e]
  ·cases h
theorem getC_inv {s:Bytes} {l:List Ch} (h:getC s=some l):batchB l=true∧putC l=(s,0):=by
 unfold getC at h
 split at h
 ·cases h
 ·rename_i k r e
  split at h
  ·rename_i h1
   obtain⟨rfl,_⟩:=h1
   split at h
   ·cases h
   ·rename_i m e2
    split at h
    ·rename_i hb
     cases h
     obtain⟨h3,h4,_,_⟩:=rowO_inv e
     have h5:=chsO_inv k e2
     refine⟨hb,?_⟩
     unfold putC
     rw[if_pos hb,h5,h3]
     rw[List.append_nil] at h4
     rw[h4]
    ·cases h
  ·cases h
end Go.Proofs.YtbcaejhhgkcgpaaGreatDoor
namespace Go.Proofs.YtbcaejhhgkcgpaaGreatDoor
open Go.Ab
theorem catT_succ {l:List Bytes} {i:Nat} {t:Bytes} (h:l[i]? =some t):catT (l.take (i+1))=catT (l.take i)++textT t:=by
 unfold catT
 rw[take_succ h]
 simp
theorem textT_len (t:Bytes):(textT t).length≤4005:=by
 unfold textT
 split
 ·simp
 ·have:=putN_len t.length
  rw[List.length_append]
  omega
theorem catT_len:∀l:List Bytes,(catT l).length≤4005*l.length
 |[]=>Nat.le_refl _
 |t::r=>by
  have h1:=catT_len r
  have h2:=textT_len t
  have e:catT (t::r)=textT t++catT r:=by simp[catT]
  rw[e,List.length_append,List.length_cons]
  omega
theorem rowE_long {l:List Bytes} (h:1000 < l.length):rowTE l=([],2):=by
 unfold rowTE
 rw[if_pos (.inl h)]
theorem rowE_big {l:List Bytes} {t:Bytes} (hm:t∈l) (h:4000 < t.length):rowTE l=([],2):=by
 unfold rowTE
 rw[if_pos (.inr ⟨t,hm,h⟩)]
theorem rowE_ok {l:List Bytes} (h1:l.length≤1000) (h2:∀t,t∈l→t.length≤4000):rowTE l=(rowT l,0):=by
 unfold rowTE
 rw[if_neg]
 rintro (h|⟨t,ht,h⟩)
 ·omega
 ·have:=h2 t ht
  omega
theorem all_of_lt {l:List Bytes} (h:∀(j:Nat) t,j < l.length→l[j]? =some t→t.length≤4000):∀t,t∈l→t.length≤4000:=by
 intro t ht
 obtain⟨j,hj⟩:=List.mem_iff_getElem?.1 ht
 exact h j t (List.getElem?_eq_some_iff.1 hj).1 hj
set_option maxRecDepth 100000 in
set_option maxHeartbeats 8000000 in
theorem rRow_ok (l:List Bytes) (tg:Tag) (hl:l.length < 1000000) (hs:∀t,t∈l→t.length < 1000000):APure Tryz.prog 59 [txA l tg] (.tup [.str (rowTE l).1,.int .i64 (rowTE l).2]):=by
 intro M
 refine acalls_of tabOK Tryz.func59 rfl (by decide) (by simp[Tryz.f59]) ?_
 have la:=len_map AV.str l
 unfold txA
 by_cases h1:1000 < l.length
 ·have d1:decide ((1000:Int) < (l.length:Int))=true:=decide_eq_true (by omega)
  rw[rowE_long h1]
  repeat' (first|refine DW_VB tabs rfl d1 ?_|refine DW_VI tabs rfl la ?_|refine DW_A tabs rfl ?_|refine DW_nil ?_|refine W_A rfl ?_)
  exact⟨rfl,_,rfl,rfl,rfl⟩
 ·have d1:decide ((1000:Int) < (l.length:Int))=false:=decide_eq_false (by omega)
  have kn:=rNumber_nat (m:=l.length) (by omega)
  repeat' (first|refine DW_VB tabs rfl d1 ?_|refine DW_VI tabs rfl la ?_|refine DW_A tabs rfl ?_|refine DW_nil ?_|refine W_A rfl ?_|refine DW_C rfl kn ?_)
  refine W_count l.length (fun i f N=>N=M∧(∀(j:Nat) t,j < i→l[j]? =some t→t.length≤4000)∧f=⟨[(0,.sl 1 (l.map AV.str) tg),(4,.str (putN l.length++catT (l.take i))),(6,.int .i64 (i:Int))],[]⟩) (Nat.zero_le _) ⟨rfl,(fun j t hj=>absurd hj (Nat.not_lt_zero _)),by simp[catT];rfl⟩ (Joint.le ?_ (Mem.le_refl _)) ?_
  ·simp[catT]
   repeat (refine AF.le_cons rfl ?_)
   exact AF.le_nil rfl
  rintro i f N hi ⟨rfl,hb,rfl⟩
  by_cases g1:i < l.length
  ·have d2:decide ((i:Int) < (l.length:Int))=true:=by simp;omega
   have hy:l[i]? =some l[i]:=List.getElem?_eq_getElem g1
   have hm:=List.getElem_mem g1
   have fi:=wrap_succ (i:=i) (by omega)
   have hc:=catT_succ hy
   generalize l[i]=t at hy hm hc
   have kt:=rtext_ok t (hs t hm)
   by_cases h2:4000 < t.length
   ·rw[rowE_big hm h2]
    rw[if_pos h2] at kt
    repeat' (first|refine DW_VB tabs rfl d2 ?_|refine DW_VI tabs rfl (by first|exact fi|exact la) ?_|refine DW_A tabs rfl ?_|refine DW_nil ?_|refine W_A rfl ?_|refine DW_C rfl kt ?_|refine DW_ix tabOK rfl (ixN hy) ?_)
    exact⟨rfl,_,rfl,rfl,rfl⟩
   ·rw[if_neg h2] at kt
    have hcat:=cat_ok (a:=putN l.length++catT (l.take i)) (b:=textT t) (by
     have a1:=putN_len l.length
     have a2:=catT_len (l.take i)
     have a3:=textT_len t
     rw[List.length_append,List.length_take] at*
     omega)
    repeat' (first|refine DW_VB tabs rfl d2 ?_|refine DW_VI tabs rfl (by first|exact fi|exact la) ?_|refine DW_A tabs rfl ?_|refine DW_nil ?_|refine W_A rfl ?_|refine DW_C rfl kt ?_|refine DW_ix tabOK rfl (ixN hy) ?_|refine DW_cat rfl (hcat) ?_)
    refine⟨g1,_,_,⟨rfl,?_,rfl⟩,Joint.le ?_ (Mem.le_refl _)⟩
    ·intro j u hj hu
     by_cases hji:j=i
     ·subst hji
      rw[hy] at hu
      cases hu
      omega
     ·exact hb j u (by omega) hu
    ·rw[hc,←List.append_assoc]
     repeat (refine AF.le_cons rfl ?_)
     exact AF.le_nil rfl
  ·have d2:decide ((i:Int) < (l.length:Int))=false:=by simp;omega
   obtain rfl:i=l.length:=by omega
   rw[rowE_ok (by omega) (all_of_lt hb),List.take_length]
   unfold rowT
   repeat' (first|refine DW_VB tabs rfl d2 ?_|refine DW_VI tabs rfl la ?_|refine DW_A tabs rfl ?_|refine DW_nil ?_|refine W_A rfl ?_)
   exact⟨rfl,_,rfl,rfl,rfl⟩
theorem rowO_none {s:Bytes} (h:getNum s=none):rowO s=none:=by
 unfold rowO
 rw[h]
theorem rowO_some {s r:Bytes} {n:Nat} (h:getNum s=some (n,r)):rowO s=if n≤1000 then getTs n r else none:=by
 unfold rowO
 rw[h]
def AtT (s:Bytes) (l:List Bytes) (q:Bytes):Prop:=∀k,getTs (l.length+k) s=(getTs k q).map fun p=>(l++p.1,p.2)
theorem atT_nil (s:Bytes):AtT s [] s:=fun k=>by
 show getTs (0+k) s=_
 rw[Nat.zero_add]
 cases getTs k s<;>rfl
theorem atT_next {s q r t:Bytes} {l:List Bytes} (h:AtT s l q) (e:textO q=some (t,r)):AtT s (l++[t]) r:=fun k=>by
 have h1:=h (k+1)
 rw[getTs_succ,e] at h1
 have e2:(l++[t]).length+k=l.length+(k+1):=by simp;omega
 rw[e2,h1]
 show Option.map _ (match getTs k r with
   |none=>none
   |some (l',q')=>some (t::l',q'))=_
 cases getTs k r<;>simp
theorem atT_stop {s q:Bytes} {l:List Bytes} {n:Nat} (h:AtT s l q) (e:textO q=none) (hk:l.length < n):getTs n s=none:=by
 have h1:=h (n - l.length - 1+1)
 rw[getTs_succ,e] at h1
 rw[show n=l.length+(n - l.length - 1+1) by omega]
 exact h1
theorem atT_end {s q:Bytes} {l:List Bytes} (h:AtT s l q):getTs l.length s=some (l,q):=by
 have h1:=h 0
 rw[Nat.add_zero] at h1
 rw[h1]
 simp[getTs]
theorem textO_lt {q r t:Bytes} (e:textO q=some (t,r)):r.length≤q.length:=by
 have h:=congrArg List.length (textO_inv e).2
 rw[List.length_append] at h
 omega
def grA:Option (List Bytes×Bytes)→AV
 |some (l,r)=>.tup [txA l .none,.str r,.bool true]
 |none=>.tup [txA [] .none,.str [],.bool false]
theorem closed_grA (x:Option (List Bytes×Bytes)):Closed (grA x):=by
 cases x with
 |none=>exact closed_tup (closed3 (closed_tx _ (.inl rfl)) closed_str closed_bool)
 |some p=>exact closed_tup (closed3 (closed_tx _ (.inl rfl)) closed_str closed_bool)
theorem sub_gr0 {k:Nat}:SubC k (.tup [.sl 0 [] .full,.str [],.bool false]) (grA none):=SubC.tup3 SubC.nil (SubC.of_closed closed_str) (SubC.of_closed closed_bool)
theorem tx_more1 (l:List Bytes) (x:Bytes) {i g:Nat}:AV.sl 1 ((l++[x]).map AV.str) (.tok i g)=.sl 1 (l.map AV.str++[.str x]) (.tok i g):=by simp
set_option maxRecDepth 100000 in
set_option maxHeartbeats 8000000 in
theorem rGetRow_ok (s:Bytes) (hs:s.length < 1000000):APure Tryz.prog 45 [.str s] (grA (rowO s)):=by
 refine pure_sub (closed1 closed_str) (closed_grA _) ?_
 refine acalls_of tabOK Tryz.func45 rfl (by decide) (by simp[Tryz.f45]) ?_
 have kg:=rGetNumber_ok s (by omega)
 cases hg:getNum s with
 |none=>
  rw[hg] at kg
  rw[rowO_none hg]
  repeat' (first|refine DW_A tabs rfl ?_|refine DW_nil ?_|refine W_A rfl ?_|refine DW_C rfl kg ?_|refine DW_row tabOK rfl ?_|refine DW_app tabOK rfl rfl (by simp;omega) (by simp;omega) ?_|refine DW_app0 tabOK rfl (by simp;omega) (by simp;omega) ?_)
  exact⟨rfl,_,rfl,_,rfl,sub_gr0⟩
 |some p=>
  obtain⟨n,r⟩:=p
  rw[hg] at kg
  have lr:=(getNum_lt hg).1
  rw[rowO_some hg]
  by_cases h1:n≤1000
  ·have d1:decide ((1000:Int) < (n:Int))=false:=decide_eq_false (by omega)
   rw[if_pos h1]
   repeat' (first|refine DW_VB tabs rfl d1 ?_|refine DW_A tabs rfl ?_|refine DW_nil ?_|refine W_A rfl ?_|refine DW_C rfl kg ?_|refine DW_row tabOK rfl ?_|refine DW_app tabOK rfl rfl (by simp;omega) (by simp;omega) ?_|refine DW_app0 tabOK rfl (by simp;omega) (by simp;omega) ?_)
   refine W_count n (fun i f N=>∃l q g,l.length=i∧AtT r l q∧q.length≤r.length∧N=tokM g∧f=⟨[(5,.int .i64 (n:Int)),(6,.str q),(8,txA l (.tok 0 g)),(9,.int .i64 (i:Int))],[]⟩) (Nat.zero_le _) ⟨[],r,0,rfl,atT_nil r,Nat.le_refl _,rfl,rfl⟩ ((Joint.tok 8 rfl (sz':=1) (.inr rfl)).trans (Joint.le ?_ (tokM_of rfl rfl))) ?_
   ·unfold txA
    repeat (refine AF.le_cons rfl ?_)
    exact AF.le_nil rfl
   rintro i f N hi ⟨l,q,g,rfl,am,lq,rfl,rfl⟩
   unfold txA
   have lm:=len_map AV.str l
   by_cases g1:l.length < n
   ·have d2:decide ((l.length:Int) < (n:Int))=true:=decide_eq_true (by omega)
    have fi:=wrap_succ (i:=l.length) (by omega)
    have kt:=rgetText_ok q (by omega)
    cases ht:textO q with
    |none=>
     rw[ht] at kt
     rw[atT_stop am ht g1]
     repeat' (first|refine DW_VB tabs rfl d2 ?_|refine DW_VI tabs rfl fi ?_|refine DW_A tabs rfl ?_|refine DW_nil ?_|refine W_A rfl ?_|refine DW_C rfl kt ?_|refine DW_row tabOK rfl ?_|refine DW_app tabOK rfl rfl (by simp;omega) (by simp;omega) ?_|refine DW_app0 tabOK rfl (by simp;omega) (by simp;omega) ?_)
     exact⟨rfl,_,rfl,_,rfl,sub_gr0⟩
    |some p=>
     obtain⟨t,q2⟩:=p
     rw[ht] at kt
     have am2:=atT_next am ht
     have lr2:=textO_lt ht
     repeat' (first|refine DW_VB tabs rfl d2 ?_|refine DW_VI tabs rfl (by first|exact fi|exact lm) ?_|refine DW_A tabs rfl ?_|refine DW_nil ?_|refine W_A rfl ?_|refine DW_C rfl kt ?_|refine DW_row tabOK rfl ?_|refine DW_app tabOK rfl rfl (by simp;omega) (by simp;omega) ?_|refine DW_app0 tabOK rfl (by simp;omega) (by simp;omega) ?_)
     refine⟨g1,_,_,⟨l++[t],q2,g+1,by simp,am2,by omega,rfl,rfl⟩,Joint.le ?_ (tokM_of rfl rfl)⟩
     rw[tx_more1]
     repeat (refine AF.le_cons rfl ?_)
     exact AF.le_nil rfl
   ·have d2:decide ((l.length:Int) < (n:Int))=false:=decide_eq_false (by omega)
    obtain rfl:l.length=n:=by omega
    rw[atT_end am]
    have hc:=closed_tx l (t:=.none) (.inl rfl)
    unfold txA at hc
    repeat' (first|refine DW_VB tabs rfl d2 ?_|refine DW_A tabs rfl ?_|refine DW_nil ?_|refine W_A rfl ?_|refine DW_row tabOK rfl ?_|refine DW_app tabOK rfl rfl (by simp;omega) (by simp;omega) ?_|refine DW_app0 tabOK rfl (by simp;omega) (by simp;omega) ?_)
    exact⟨rfl,_,rfl,_,rfl,SubC.tup3 (SubC.untag hc) (SubC.of_closed closed_str) (SubC.of_closed closed_bool)⟩
  ·have d1:decide ((1000:Int) < (n:Int))=true:=decide_eq_true (by omega)
   rw[if_neg h1]
   repeat' (first|refine DW_VB tabs rfl d1 ?_|refine DW_A tabs rfl ?_|refine DW_nil ?_|refine W_A rfl ?_|refine DW_C rfl kg ?_|refine DW_row tabOK rfl ?_|refine DW_app tabOK rfl rfl (by simp;omega) (by simp;omega) ?_|refine DW_app0 tabOK rfl (by simp;omega) (by simp;omega) ?_)
   exact⟨rfl,_,rfl,_,rfl,sub_gr0⟩
def nextTR (s:Bytes) (e:AEnd) (d:List AV):Prop:=match textO s with
 |none=>e=.ret (.tup [.str [],.str [],.bool false])∧d=[.str []]
 |some (t,r)=>e=.ret (.tup [.str t,.str r,.bool true])∧d=[.str r]
set_option maxRecDepth 100000 in
set_option maxHeartbeats 8000000 in
theorem ctexts_ok (s:Bytes):ACalls Tryz.prog 95 [.str s] ⟨0,[]⟩ (fun e N=>e=.ret (.fn (.func 154) [] [.ptr 0 0])∧N=⟨1,[(0,.cells [.str s])]⟩):=by
 refine acalls_of tabOK Tryz.func95 rfl (by decide) (by simp[Tryz.f95]) ?_
 repeat' (first|refine DW_box 1 tabOK rfl ?_|refine DW_A tabs rfl ?_|refine DW_nil ?_|refine W_A rfl ?_)
 exact⟨rfl,_,rfl,rfl,rfl⟩
set_option maxRecDepth 100000 in
set_option maxHeartbeats 8000000 in
theorem ctexts0 (s:Bytes) (hs:s.length < 4611686018427387904):ACalls Tryz.prog 154 [.ptr 0 0] ⟨1,[(0,.cells [.str s])]⟩ (fun e N=>N.next=1∧∃d,N.get 0=some (.cells d)∧nextTR s e d):=by
 refine acalls_of tabOK Tryz.func154 rfl (by decide) (by simp[Tryz.f154]) ?_
 have kt:=cgetText_ok s hs
 unfold nextTR
 cases ht:textO s with
 |none=>
  rw[ht] at kt
  repeat' (first|refine DW_A tabs rfl ?_|refine DW_nil ?_|refine W_A rfl ?_|refine DW_C rfl kt ?_|refine W_draw mixed [0,2,3,1,4,5] [.P,.R,.P,.P,.P,.P] rfl rfl (by kernel_rfl) ?_)
  exact⟨rfl,_,rfl,rfl,_,rfl,rfl,rfl⟩
 |some p=>
  obtain⟨t,r⟩:=p
  rw[ht] at kt
  repeat' (first|refine DW_A tabs rfl ?_|refine DW_nil ?_|refine W_A rfl ?_|refine DW_C rfl kt ?_|refine W_draw mixed [0,2,3,1,4,5] [.P,.R,.P,.P,.P,.P] rfl rfl (by kernel_rfl) ?_)
  exact⟨rfl,_,rfl,rfl,_,rfl,rfl,rfl⟩
theorem ctext1_ok {M:Mem} {id:Nat} {s:Bytes} (hM:M.get id=some (.cells [.str s])) (hlt:id < M.next) (hs:s.length < 4611686018427387904):
  ACalls Tryz.prog 154 [.ptr id 0] M fun e N=>∃d,nextTR s e d∧N=M.set id (.cells d):=by
 refine ACalls.frame1 id hM hlt (closed1 closed_str) (ctexts0 s hs) ⟨InV.ptr rfl,trivial⟩ ?_
 intro e d h
 refine⟨?_,?_,d,h,rfl⟩
 ·unfold nextTR at h
  split at h
  ·obtain⟨rfl,_⟩:=h
   exact closed_tup (closed3 closed_str closed_str closed_bool)
  ·obtain⟨rfl,_⟩:=h
   exact closed_tup (closed3 closed_str closed_str closed_bool)
 ·unfold nextTR at h
  split at h
  ·obtain⟨_,rfl⟩:=h
   exact closed1 closed_str
  ·obtain⟨_,rfl⟩:=h
   exact closed1 closed_str
theorem ctext_none {M:Mem} {id:Nat} {s:Bytes} (ht:textO s=none) (hM:M.get id=some (.cells [.str s])) (hlt:id < M.next) (hs:s.length < 4611686018427387904):
  ACalls Tryz.prog 154 [.ptr id 0] M fun e N=>e=.ret (.tup [.str [],.str [],.bool false])∧N=M.set id (.cells [.str []]):=by
 refine (ctext1_ok hM hlt hs).mono ?_
 rintro e N ⟨d,h,rfl⟩
 unfold nextTR at h
 rw[ht] at h
 obtain⟨rfl,rfl⟩:=h
 exact⟨rfl,rfl⟩
theorem ctext_some {M:Mem} {id:Nat} {s t r:Bytes} (ht:textO s=some (t,r)) (hM:M.get id=some (.cells [.str s])) (hlt:id < M.next) (hs:s.length < 4611686018427387904):
  ACalls Tryz.prog 154 [.ptr id 0] M fun e N=>e=.ret (.tup [.str t,.str r,.bool true])∧N=M.set id (.cells [.str r]):=by
 refine (ctext1_ok hM hlt hs).mono ?_
 rintro e N ⟨d,h,rfl⟩
 unfold nextTR at h
 rw[ht] at h
 obtain⟨rfl,rfl⟩:=h
 exact⟨rfl,rfl⟩
def grM (q:Bytes) (g:Nat):Mem:=⟨2,[(0,.cells [.str q]),(1,.spare g)]⟩
def grF (n:Nat) (l:List Bytes) (q:Bytes) (g i:Nat):AF:=⟨[(6,.str q),(8,txA l (.tok 1 g)),(9,.fn (.func 154) [] [.ptr 0 0]),(27,.int .i64 (n:Int)),(28,.int .i64 (i:Int))],[]⟩
set_option maxRecDepth 100000 in
set_option maxHeartbeats 8000000 in
theorem cGetRow_ok (s:Bytes) (hs:s.length < 1000000):APure Tryz.prog 42 [.str s] (grA (rowO s)):=by
 refine pure_sub (closed1 closed_str) (closed_grA _) ?_
 refine acalls_of tabOK Tryz.func42 rfl (by decide) (by simp[Tryz.f42]) ?_
 have kg:=getNumber_ok s (by omega)
 cases hg:getNum s with
 |none=>
  rw[hg] at kg
  rw[rowO_none hg]
  repeat' (first|refine DW_A tabs rfl ?_|refine DW_nil ?_|refine W_A rfl ?_|refine DW_C rfl kg ?_|refine DW_row tabOK rfl ?_|refine DW_app tabOK rfl rfl (by simp;omega) (by simp;omega) ?_|refine DW_app0 tabOK rfl (by simp;omega) (by simp;omega) ?_)
  exact⟨rfl,_,rfl,_,rfl,sub_gr0⟩
 |some p=>
  obtain⟨n,r⟩:=p
  rw[hg] at kg
  have lr:=(getNum_lt hg).1
  rw[rowO_some hg]
  by_cases h1:n≤1000
  ·have d1:decide ((1000:Int) < (n:Int))=false:=decide_eq_false (by omega)
   rw[if_pos h1]
   repeat' (first|refine DW_VB tabs rfl d1 ?_|refine DW_A tabs rfl ?_|refine DW_nil ?_|refine W_A rfl ?_|refine DW_C rfl kg ?_|refine DW_CM rfl rfl (ctexts_ok r) ?_ ?_|refine DW_row tabOK rfl ?_|refine DW_app tabOK rfl rfl (by simp;omega) (by simp;omega) ?_|refine DW_app0 tabOK rfl (by simp;omega) (by simp;omega) ?_)
   rotate_left
   ·intro u M' h
    cases h.1
   rintro u M' ⟨e,rfl⟩
   cases e
   repeat' (first|refine DW_A tabs rfl ?_|refine DW_nil ?_|refine W_A rfl ?_|refine DW_row tabOK rfl ?_|refine DW_app tabOK rfl rfl (by simp;omega) (by simp;omega) ?_|refine DW_app0 tabOK rfl (by simp;omega) (by simp;omega) ?_)
   refine W_count n (fun i f N=>∃l q g,l.length=i∧AtT r l q∧q.length≤r.length∧N=grM q g∧f=grF n l q g i) (Nat.zero_le _) ⟨[],r,0,rfl,atT_nil r,Nat.le_refl _,rfl,rfl⟩ ((Joint.tok 8 rfl (sz':=1) (.inr rfl)).trans (Joint.le ?_ (Mem.le_cons rfl (Mem.le_cons rfl (Mem.le_nil rfl))))) ?_
   ·unfold grF txA
    repeat (refine AF.le_cons rfl ?_)
    exact AF.le_nil rfl
   rintro i f N hi ⟨l,q,g,rfl,am,lq,rfl,rfl⟩
   unfold grF txA
   have lm:=len_map AV.str l
   by_cases g1:l.length < n
   ·have d2:decide ((l.length:Int) < (n:Int))=true:=decide_eq_true (by omega)
    have fi:=wrap_succ (i:=l.length) (by omega)
    cases ht:textO q with
    |none=>
     rw[atT_stop am ht g1]
     repeat' (first|refine DW_VB tabs rfl d2 ?_|refine DW_VI tabs rfl fi ?_|refine DW_A tabs rfl ?_|refine DW_nil ?_|refine W_A rfl ?_|refine DW_row tabOK rfl ?_|refine DW_app tabOK rfl rfl (by simp;omega) (by simp;omega) ?_|refine DW_app0 tabOK rfl (by simp;omega) (by simp;omega) ?_)
     refine DW_CM rfl rfl (ctext_none ht rfl (by show 0 < 2;decide) (by omega)) ?_ ?_
     rotate_left
     ·rintro u N ⟨h,_⟩
      cases h
     rintro u N ⟨h,rfl⟩
     cases h
     repeat' (first|refine DW_A tabs rfl ?_|refine DW_nil ?_|refine W_A rfl ?_|refine DW_row tabOK rfl ?_|refine DW_app tabOK rfl rfl (by simp;omega) (by simp;omega) ?_|refine DW_app0 tabOK rfl (by simp;omega) (by simp;omega) ?_)
     exact⟨rfl,_,rfl,_,rfl,sub_gr0⟩
    |some p=>
     obtain⟨t,q2⟩:=p
     have am2:=atT_next am ht
     have lr2:=textO_lt ht
     repeat' (first|refine DW_VB tabs rfl d2 ?_|refine DW_VI tabs rfl fi ?_|refine DW_A tabs rfl ?_|refine DW_nil ?_|refine W_A rfl ?_|refine DW_row tabOK rfl ?_|refine DW_app tabOK rfl rfl (by simp;omega) (by simp;omega) ?_|refine DW_app0 tabOK rfl (by simp;omega) (by simp;omega) ?_)
     refine DW_CM rfl rfl (ctext_some ht rfl (by show 0 < 2;decide) (by omega)) ?_ ?_
     rotate_left
     ·rintro u N ⟨h,_⟩
      cases h
     rintro u N ⟨h,rfl⟩
     cases h
     repeat' (first|refine DW_VB tabs rfl d2 ?_|refine DW_VI tabs rfl (by first|exact fi|exact lm) ?_|refine DW_A tabs rfl ?_|refine DW_nil ?_|refine W_A rfl ?_|refine DW_row tabOK rfl ?_|refine DW_app tabOK rfl rfl (by simp;omega) (by simp;omega) ?_|refine DW_app0 tabOK rfl (by simp;omega) (by simp;omega) ?_)
     refine⟨g1,grF n (l++[t]) q2 (g+1) (l.length+1),grM q2 (g+1),⟨l++[t],q2,g+1,by simp,am2,by omega,rfl,rfl⟩,Joint.le ?_ (Mem.le_cons rfl (Mem.le_cons rfl (Mem.le_nil rfl)))⟩
     unfold grF txA
     rw[tx_more1]
     repeat (refine AF.le_cons rfl ?_)
     exact AF.le_nil rfl
   ·have d2:decide ((l.length:Int) < (n:Int))=false:=decide_eq_false (by omega)
    obtain rfl:l.length=n:=by omega
    rw[atT_end am]
    have hc:=closed_tx l (t:=.none) (.inl rfl)
    unfold txA at hc
    repeat' (first|refine DW_VB tabs rfl d2 ?_|refine DW_A tabs rfl ?_|refine DW_nil ?_|refine W_A rfl ?_|refine DW_row tabOK rfl ?_|refine DW_app tabOK rfl rfl (by simp;omega) (by simp;omega) ?_|refine DW_app0 tabOK rfl (by simp;omega) (by simp;omega) ?_)
    exact⟨rfl,_,rfl,_,rfl,SubC.tup3 (SubC.untag hc) (SubC.of_closed closed_str) (SubC.of_closed closed_bool)⟩
  ·have d1:decide ((1000:Int) < (n:Int))=true:=decide_eq_true (by omega)
   rw[if_neg h1]
   repeat' (first|refine DW_VB tabs rfl d1 ?_|refine DW_A tabs rfl ?_|refine DW_nil ?_|refine W_A rfl ?_|refine DW_C rfl kg ?_|refine DW_row tabOK rfl ?_|refine DW_app tabOK rfl rfl (by simp;omega) (by simp;omega) ?_|refine DW_app0 tabOK rfl (by simp;omega) (by simp;omega) ?_)
   exact⟨rfl,_,rfl,_,rfl,sub_gr0⟩
theorem textT_ne {t:Bytes} (h:¬4000 < t.length):textT t≠[]:=by
 unfold textT
 rw[if_neg h]
 simp[putN]
set_option maxRecDepth 100000 in
set_option maxHeartbeats 8000000 in
theorem cRow_ok (l:List Bytes) (tg:Tag) (htg:tg=.none∨tg=.full) (hl:l.length < 1000000) (hs:∀t,t∈l→t.length < 1000000):APure Tryz.prog 57 [txA l tg] (.tup [.str (rowTE l).1,.int .i64 (rowTE l).2]):=by
 refine pure_sub (closed1 (closed_tx l htg)) (closed_tup (closed2 closed_str closed_int)) ?_
 refine acalls_of tabOK Tryz.func57 rfl (by decide) (by simp[Tryz.f57]) ?_
 have la:=len_map AV.str l
 unfold txA
 by_cases h1:1000 < l.length
 ·have d1:decide ((1000:Int) < (l.length:Int))=true:=decide_eq_true (by omega)
  rw[rowE_long h1]
  repeat' (first|refine DW_raw rfl lays169.v72 ?_|refine DW_VB tabs rfl d1 ?_|refine DW_VI tabs rfl la ?_|refine DW_A tabs rfl ?_|refine DW_nil ?_|refine W_A rfl ?_)
  exact⟨rfl,_,rfl,_,rfl,SubC.of_closed (closed_tup (closed2 closed_str closed_int))⟩
 ·have d1:decide ((1000:Int) < (l.length:Int))=false:=decide_eq_false (by omega)
  have kn:=number_nat (m:=l.length) (by omega)
  have lp:=putN_len l.length
  repeat' (first|refine DW_raw rfl lays169.v72 ?_|refine DW_VB tabs rfl d1 ?_|refine DW_VI tabs rfl la ?_|refine DW_A tabs rfl ?_|refine DW_nil ?_|refine W_A rfl ?_|refine DW_C rfl kn ?_)
  refine DW_CM rfl rfl (bWrite (k:=1) (by decide) (bs:=[]) (.inl ⟨rfl,rfl⟩) (by simp[putN]) (by simp;omega)) ?_ (fun u M' h=>by cases h.1)
  rintro u N' ⟨e,N2,hN2,hle⟩
  cases e
  repeat' (first|refine DW_raw rfl lays169.v72 ?_|refine DW_VI tabs rfl la ?_|refine DW_A tabs rfl ?_|refine DW_nil ?_|refine W_A rfl ?_)
  refine W_count l.length (fun i f N=>BldI 1 (putN l.length++catT (l.take i)) N∧(∀(j:Nat) t,j < i→l[j]? =some t→t.length≤4000)∧f=⟨[(4,.ptr 0 0),(6,.int .i64 0),(22,.sl 1 (l.map AV.str) tg),(23,.int .i64 (l.length:Int)),(24,.int .i64 (i:Int))],[]⟩) (Nat.zero_le _) ⟨by simpa [catT] using hN2,(fun j t hj=>absurd hj (Nat.not_lt_zero _)),rfl⟩ (Joint.le ?_ hle) ?_
  ·skip
   repeat (refine AF.le_cons rfl ?_)
   exact AF.le_nil rfl
  rintro i f N hi ⟨hN,hb,rfl⟩
  have a1:=putN_len l.length
  have a2:=catT_len (l.take i)
  rw[List.length_take] at a2
  by_cases g1:i < l.length
  ·have d2:decide ((i:Int) < (l.length:Int))=true:=by simp;omega
   have hy:l[i]? =some l[i]:=List.getElem?_eq_getElem g1
   have hm:=List.getElem_mem g1
   have fi:=wrap_succ (i:=i) (by omega)
   have hc:=catT_succ hy
   generalize l[i]=t at hy hm hc
   have kt:=ctext_ok t (hs t hm)
   by_cases h2:4000 < t.length
   ·rw[rowE_big hm h2]
    rw[if_pos h2] at kt
    repeat' (first|refine DW_raw rfl lays169.v72 ?_|refine DW_VB tabs rfl d2 ?_|refine DW_VI tabs rfl fi ?_|refine DW_A tabs rfl ?_|refine DW_nil ?_|refine W_A rfl ?_|refine DW_C rfl kt ?_|refine DW_ix tabOK rfl (ixN hy) ?_)
    exact⟨rfl,_,rfl,_,rfl,SubC.of_closed (closed_tup (closed2 closed_str closed_int))⟩
   ·rw[if_neg h2] at kt
    have a3:=textT_len t
    repeat' (first|refine DW_raw rfl lays169.v72 ?_|refine DW_VB tabs rfl d2 ?_|refine DW_VI tabs rfl fi ?_|refine DW_A tabs rfl ?_|refine DW_nil ?_|refine W_A rfl ?_|refine DW_C rfl kt ?_|refine DW_ix tabOK rfl (ixN hy) ?_)
    refine DW_CM rfl rfl (bWrite (by decide) hN (textT_ne h2) (by rw[List.length_append];omega)) ?_ (fun u M' h=>by cases h.1)
    rintro u N' ⟨e,N3,hN3,hle3⟩
    cases e
    repeat' (first|refine DW_raw rfl lays169.v72 ?_|refine DW_VI tabs rfl fi ?_|refine DW_A tabs rfl ?_|refine DW_nil ?_|refine W_A rfl ?_)
    refine⟨g1,_,_,⟨?_,?_,rfl⟩,Joint.le ?_ hle3⟩
    ·rw[hc,←List.append_assoc]
     exact hN3
    ·intro j u hj hu
     by_cases hji:j=i
     ·subst hji
      rw[hy] at hu
      cases hu
      omega
     ·exact hb j u (by omega) hu
    ·skip
     repeat (refine AF.le_cons rfl ?_)
     exact AF.le_nil rfl
  ·have d2:decide ((i:Int) < (l.length:Int))=false:=by simp;omega
   obtain rfl:i=l.length:=by omega
   rw[List.take_length] at hN a2
   rw[rowE_ok (by omega) (all_of_lt hb)]
   unfold rowT
   repeat' (first|refine DW_raw rfl lays169.v72 ?_|refine DW_VB tabs rfl d2 ?_|refine DW_A tabs rfl ?_|refine DW_nil ?_|refine W_A rfl ?_)
   refine DW_CM rfl rfl (bTell (by decide) hN (by simp[putN]) (by rw[List.length_append];omega)) ?_ (fun u M' h=>by cases h.1)
   rintro u N' ⟨e,hn⟩
   cases e
   repeat' (first|refine DW_raw rfl lays169.v72 ?_|refine DW_A tabs rfl ?_|refine DW_nil ?_|refine W_A rfl ?_)
   exact⟨rfl,_,rfl,_,rfl,SubC.of_closed (closed_tup (closed2 closed_str closed_int))⟩
end Go.Proofs.YtbcaejhhgkcgpaaGreatDoor
