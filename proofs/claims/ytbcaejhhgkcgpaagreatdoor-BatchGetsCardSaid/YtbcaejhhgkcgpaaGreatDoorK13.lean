/- Parts of the proof, one behind the other. No further condition. -/
import Derived.Test.YtbcaejhhgkcgpaaGreatDoorK12
import Derived.Lib.Bytealg
set_option linter.unusedVariables false
set_option linter.unusedSimpArgs false
namespace Go.Proofs.YtbcaejhhgkcgpaaGreatDoor
open Go.Ab Go.Shelf
def bldM (g n cap:Nat) (c:Array Value):Mem:=⟨2,[(0,.cells [.ptr 0 0,.bsl 1 g n cap]),(1,bufO g 5 c)]⟩
def bld0:Mem:=⟨1,[(0,bldNew 93)]⟩
set_option maxRecDepth 100000 in
set_option maxHeartbeats 8000000 in
theorem bwNew (s:Bytes) (hs:s≠[]) (hl:s.length < 1000000000):ACalls Tryz.prog 63 [.ptr 0 0,.str s] bld0 (fun e N=>∃cap c,BufIs c s cap∧e=.ret (.tup [.int .i64 (s.length:Int),.nilIface])∧(bldM 0 s.length cap c).le N):=by
 refine acalls_of tabOK Tryz.func63 rfl (by decide) (by simp[Tryz.f63]) ?_
 unfold bld0
 repeat' (first|refine DW_bnew tabOK rfl hs (by omega) ?_|refine DW_A tabs rfl ?_|refine DW_nil ?_|refine W_A rfl ?_|refine DW_app tabOK rfl rfl (by simp;omega) (by simp;omega) ?_|refine DW_app0 tabOK rfl (by simp;omega) (by simp;omega) ?_)
 refine DW_CM rfl rfl (copyNew lays240 laysX.toX72 ⟨_,_,Tryz.func116,rfl,by decide⟩ rfl) ?_ (fun u M' h=>by cases h.1)
 rintro u N ⟨e,rfl⟩
 cases e
 repeat' (first|refine DW_bnew tabOK rfl hs (by omega) ?_|refine DW_A tabs rfl ?_|refine DW_nil ?_|refine W_A rfl ?_|refine DW_app tabOK rfl rfl (by simp;omega) (by simp;omega) ?_|refine DW_app0 tabOK rfl (by simp;omega) (by simp;omega) ?_)
 intro cap c hB
 repeat' (first|refine DW_bnew tabOK rfl hs (by omega) ?_|refine DW_A tabs rfl ?_|refine DW_nil ?_|refine W_A rfl ?_|refine DW_app tabOK rfl rfl (by simp;omega) (by simp;omega) ?_|refine DW_app0 tabOK rfl (by simp;omega) (by simp;omega) ?_)
 exact⟨rfl,_,rfl,cap,c,hB,rfl,Mem.le_cons rfl (Mem.le_cons rfl (Mem.le_nil rfl))⟩
set_option maxRecDepth 100000 in
set_option maxHeartbeats 8000000 in
theorem bwMore (s bs:Bytes) (g cap:Nat) (c:Array Value) (hB:BufIs c bs cap) (hl:bs.length+s.length < 1000000000):ACalls Tryz.prog 63 [.ptr 0 0,.str s] (bldM g bs.length cap c) (fun e N=>∃cap c,BufIs c (bs++s) cap∧e=.ret (.tup [.int .i64 (s.length:Int),.nilIface])∧(bldM (g+1) (bs++s).length cap c).le N):=by
 refine acalls_of tabOK Tryz.func63 rfl (by decide) (by simp[Tryz.f63]) ?_
 unfold bldM
 repeat' (first|refine DW_bapp tabOK rfl rfl rfl hB (by omega) ?_|refine DW_A tabs rfl ?_|refine DW_nil ?_|refine W_A rfl ?_|refine DW_app tabOK rfl rfl (by simp;omega) (by simp;omega) ?_|refine DW_app0 tabOK rfl (by simp;omega) (by simp;omega) ?_)
 refine DW_CM rfl rfl (copyUsed lays240 laysX.toX72 ⟨_,_,Tryz.func116,rfl,by decide⟩ rfl) ?_ (fun u M' h=>by cases h.1)
 rintro u N ⟨e,rfl⟩
 cases e
 repeat' (first|refine DW_bapp tabOK rfl rfl rfl hB (by omega) ?_|refine DW_A tabs rfl ?_|refine DW_nil ?_|refine W_A rfl ?_|refine DW_app tabOK rfl rfl (by simp;omega) (by simp;omega) ?_|refine DW_app0 tabOK rfl (by simp;omega) (by simp;omega) ?_)
 intro cap c hB
 repeat' (first|refine DW_bapp tabOK rfl rfl rfl hB (by omega) ?_|refine DW_A tabs rfl ?_|refine DW_nil ?_|refine W_A rfl ?_|refine DW_app tabOK rfl rfl (by simp;omega) (by simp;omega) ?_|refine DW_app0 tabOK rfl (by simp;omega) (by simp;omega) ?_)
 rw[←List.length_append]
 exact⟨rfl,_,rfl,cap,c,hB,rfl,Mem.le_cons rfl (Mem.le_cons rfl (Mem.le_nil rfl))⟩
theorem bwNewM {M:Mem} {id:Nat} (hM:M.get id=some (bldNew 93)) (hlt:id < M.next) (s:Bytes) (hs:s≠[]) (hl:s.length < 1000000000):ACalls Tryz.prog 63 [.ptr id 0,.str s] M fun e N=>
  ∃cap c,BufIs c s cap∧e=.ret (.tup [.int .i64 (s.length:Int),.nilIface])∧N=(M.push (bufO 0 5 c)).set id (.cells [.ptr id 0,.bsl M.next 0 s.length cap]):=by
 refine ACalls.frame [id] (by simp) (by simpa using hlt) (N0:=bld0) rfl ?_ (bwNew s hs hl) ⟨InV.ptr rfl,InV.closed closed_str,trivial⟩ ?_
 ·intro k o1 hk
  have hk':(if k=0 then some (bldNew 93) else none)=some o1:=hk
  split at hk'
  ·rename_i h0
   subst h0
   cases hk'
   exact⟨id,_,rfl,hM,rfl,rfl,rfl,rfl,rfl⟩
  ·cases hk'
 ·rintro e M1 ⟨cap,c,hB,rfl,hn,hle⟩
  refine⟨.ret (.tup [.int .i64 (s.length:Int),.nilIface]),_,OutV.closed (closed_tup (closed2 closed_int closed_nilIface)),⟨?_,?_⟩,cap,c,hB,rfl,rfl⟩
  ·show M.next+1=M.next+(M1.next - 1)
   rw[←hn]
   rfl
  ·intro i o hi
   rw[Mem.get_set] at hi
   split at hi
   ·rename_i h0
    cases hi
    refine .inl ⟨0,_,.inl (by rw[h0];rfl),hle 0 _ rfl,?_⟩
    exact⟨OutV.ptr,OutV.bsl,trivial⟩
   ·rename_i h0
    rw[Mem.get_push] at hi
    split at hi
    ·rename_i h1
     cases hi
     exact .inl ⟨1,_,.inr ⟨Nat.le_refl _,h1⟩,hle 1 _ rfl,rfl,rfl,rfl,rfl,rfl⟩
    ·exact .inr ⟨by simpa using h0,hi⟩
theorem bwMoreM {M:Mem} {id k g cap:Nat} {c:Array Value} {bs:Bytes} (hM:M.get id=some (.cells [.ptr id 0,.bsl k g bs.length cap])) (hK:M.get k=some (bufO g 5 c)) (hne:id≠k) (hlt:id < M.next) (hltk:k < M.next)
  (hB:BufIs c bs cap) (s:Bytes) (hl:bs.length+s.length < 1000000000):ACalls Tryz.prog 63 [.ptr id 0,.str s] M fun e N=>
  ∃cap c,BufIs c (bs++s) cap∧e=.ret (.tup [.int .i64 (s.length:Int),.nilIface])∧N=(M.set id (.cells [.ptr id 0,.bsl k (g+1) (bs++s).length cap])).set k (bufO (g+1) 5 c):=by
 refine ACalls.frame [id,k] (by simp[hne]) (by intro i hi;simp at hi;rcases hi with rfl|rfl<;>assumption) (N0:=bldM g bs.length cap c) rfl ?_ (bwMore s bs g cap c hB hl) ⟨InV.ptr rfl,InV.closed closed_str,trivial⟩ ?_
 ·intro j o1 hj
  have hj':(if j=0 then some (AObj.cells [.ptr 0 0,.bsl 1 g bs.length cap]) else if j=1 then some (bufO g 5 c) else none)=some o1:=hj
  split at hj'
  ·rename_i h0
   subst h0
   cases hj'
   exact⟨id,_,rfl,hM,InV.ptr rfl,InV.bsl rfl,trivial⟩
  ·split at hj'
   ·rename_i h0
    subst h0
    cases hj'
    exact⟨k,_,rfl,hK,rfl,rfl,rfl,rfl,rfl⟩
   ·cases hj'
 ·rintro e M1 ⟨cap,c,hB,rfl,hn,hle⟩
  refine⟨.ret (.tup [.int .i64 (s.length:Int),.nilIface]),_,OutV.closed (closed_tup (closed2 closed_int closed_nilIface)),⟨?_,?_⟩,cap,c,hB,rfl,rfl⟩
  ·show M.next=M.next+(M1.next - 2)
   rw[←hn]
   rfl
  ·intro i o hi
   rw[Mem.get_set] at hi
   split at hi
   ·rename_i h0
    cases hi
    exact .inl ⟨1,_,.inl (by rw[h0];rfl),hle 1 _ rfl,rfl,rfl,rfl,rfl,rfl⟩
   ·rename_i h0
    rw[Mem.get_set] at hi
    split at hi
    ·rename_i h1
     cases hi
     refine .inl ⟨0,_,.inl (by rw[h1];rfl),hle 0 _ rfl,?_⟩
     exact⟨OutV.ptr,OutV.bsl,trivial⟩
    ·rename_i h1
     exact .inr ⟨by simp;exact⟨h1,h0⟩,hi⟩
def bldK (k g n cap:Nat) (c:Array Value):Mem:=⟨k+1,[(0,.cells [.ptr 0 0,.bsl k g n cap]),(k,bufO g 5 c)]⟩
def bldK0 (k:Nat):Mem:=⟨k,[(0,bldNew 93)]⟩
def BldI (k:Nat) (bs:Bytes) (N:Mem):Prop:=(bs=[]∧N=bldK0 k)∨(bs≠[]∧∃g cap c,BufIs c bs cap∧N=bldK k g bs.length cap c)
theorem bldK_get {k g n cap:Nat} {c:Array Value} (hk:0 < k):(bldK k g n cap c).get k=some (bufO g 5 c):=by
 simp[bldK,Mem.get,lookup]
 omega
theorem bWrite {k:Nat} (hk:0 < k) {bs s:Bytes} {N:Mem} (hN:BldI k bs N) (hs:s≠[]) (hl:bs.length+s.length < 1000000000):
  ACalls Tryz.prog 63 [.ptr 0 0,.str s] N fun e N'=>e=.ret (.tup [.int .i64 (s.length:Int),.nilIface])∧∃N2,BldI k (bs++s) N2∧N2.le N':=by
 rcases hN with ⟨rfl,rfl⟩|⟨_,g,cap,c,hB,rfl⟩
 ·refine (bwNewM (M:=bldK0 k) (id:=0) rfl hk s hs (by omega)).mono ?_
  rintro e N' ⟨cap,c,hB,rfl,rfl⟩
  refine⟨rfl,bldK k 0 ([]++s).length cap c,.inr ⟨hs,0,cap,c,hB,rfl⟩,rfl,?_⟩
  intro i o hi
  rw[Mem.get_set]
  simp[bldK,Mem.get,lookup] at hi
  split at hi
  ·rename_i h0
   rw[if_pos h0]
   exact hi
  ·rename_i h0
   rw[if_neg h0,Mem.get_push]
   split at hi
   ·rename_i h1
    rw[if_pos (show i=(bldK0 k).next from h1)]
    exact hi
   ·cases hi
 ·refine (bwMoreM (M:=bldK k g bs.length cap c) (id:=0) (k:=k) rfl (bldK_get hk) (by omega) (Nat.succ_pos _) (Nat.lt_succ_self _) hB s hl).mono ?_
  rintro e N' ⟨cap,c,hB,rfl,rfl⟩
  refine⟨rfl,bldK k (g+1) (bs++s).length cap c,.inr ⟨by simp[hs],g+1,cap,c,hB,rfl⟩,rfl,?_⟩
  intro i o hi
  rw[Mem.get_set]
  simp only[bldK,Mem.get,lookup] at hi
  split at hi
  ·rename_i h0
   rw[if_neg (by omega),Mem.get_set,if_pos h0]
   exact hi
  ·split at hi
   ·rename_i h0
    rw[if_pos h0]
    exact hi
   ·cases hi
theorem bTellM {M:Mem} {id k g cap:Nat} {c:Array Value} {bs:Bytes} {x:AV} (hM:M.get id=some (.cells [x,.bsl k g bs.length cap])) (hK:M.get k=some (bufO g 5 c)) (hB:BufIs c bs cap) (h0:bs≠[]) (hl:bs.length < 1000000000):
  ACalls Tryz.prog 64 [.ptr id 0] M fun e N=>e=.ret (.str bs)∧N=M.drop k:=
 bstr_ok lays169 laysX ⟨_,_,Tryz.func64,rfl,by decide⟩ hM hK hB h0 (by omega)
theorem bTell {k:Nat} (hk:0 < k) {bs:Bytes} {N:Mem} (hN:BldI k bs N) (h0:bs≠[]) (hl:bs.length < 1000000000):ACalls Tryz.prog 64 [.ptr 0 0] N fun e N'=>e=.ret (.str bs)∧N'.next=N.next:=by
 rcases hN with ⟨rfl,rfl⟩|⟨_,g,cap,c,hB,rfl⟩
 ·exact absurd rfl h0
 ·refine (bTellM (M:=bldK k g bs.length cap c) (id:=0) rfl (bldK_get hk) hB h0 hl).mono ?_
  rintro e N' ⟨rfl,rfl⟩
  exact⟨rfl,rfl⟩
end Go.Proofs.YtbcaejhhgkcgpaaGreatDoor
namespace Go.Proofs.YtbcaejhhgkcgpaaGreatDoor
open Go.Ab
def mtL (m:Mt):List Int:=[m.size,m.mode,(m.ch.length:Int)]++m.ch
def catN (l:List Int):Bytes:=(l.map fun n=>putN n.toNat).flatten
def putM (m:Mt):Bytes×Int:=if isM m=true then (catN (mtL m),0) else ([],1)
def valueM (m:Mt) (no:Bool):Bytes×Int:=if no=true then ([0],0) else if (putM m).2=0 then (1::(putM m).1,0) else ([],(putM m).2)
def strA (x:Bytes×Int):AV:=.tup [.str x.1,.int .i64 x.2]
theorem closed_strA (x:Bytes×Int):Closed (strA x):=closed_tup (closed2 closed_str closed_int)
theorem catN_take {l:List Int} {i:Nat} {x:Int} (h:l.take (i+1)=l.take i++[x]):catN (l.take (i+1))=catN (l.take i)++putN x.toNat:=by
 unfold catN
 rw[h,List.map_append,List.flatten_append]
 simp
theorem putN_len (n:Nat):(putN n).length≤5:=by
 unfold putN nb nbI
 rw[List.length_cons]
 have:=(List.dropWhile_sublist (fun b:UInt8=>b==0) (l:=(be4 n).take 4)).length_le
 rw[List.length_take] at this
 omega
theorem catN_len (l:List Int):(catN l).length≤5*l.length:=by
 unfold catN
 induction l with
 |nil=>simp
 |cons x r ih=>
  have:=putN_len x.toNat
  simp at ih ⊢
  omega
theorem mtL_in {m:Mt} (h:isM m=true):∀x,x∈mtL m→0≤x∧x≤4294967295:=by
 unfold isM inR at h
 simp at h
 obtain⟨h1,⟨⟨h2,h3⟩,h4⟩,h5⟩:=h
 intro x hx
 unfold mtL at hx
 simp at hx
 rcases hx with rfl|rfl|rfl|hx
 ·omega
 ·omega
 ·omega
 ·exact h1 x hx
theorem mtL_len {m:Mt} (h:isM m=true):(mtL m).length≤19:=by
 unfold isM inR at h
 simp at h
 unfold mtL
 simp
 omega
set_option maxRecDepth 100000 in
set_option maxHeartbeats 8000000 in
theorem putM_ok (m:Mt) (hl:m.ch.length < 1000000):APure Tryz.prog 110 [m.av] (strA (putM m)):=by
 refine pure_sub (closed1 (closed_mt m)) (closed_strA _) ?_
 refine acalls_of tabOK Tryz.func110 rfl (by decide) (by simp[Tryz.f110]) ?_
 have lc:=len_map (fun n=>AV.int .i64 n) m.ch
 have k1:=mIs_ok m hl
 unfold putM
 cases h:isM m
 ·rw[h] at k1
  rw[if_neg (by simp)]
  repeat' (first|refine DW_raw rfl lays169.v72 ?_|refine DW_VI tabs rfl lc ?_|refine DW_A tabs rfl ?_|refine DW_nil ?_|refine W_A rfl ?_|refine DW_C rfl k1 ?_|refine DW_row tabOK rfl ?_|refine DW_app tabOK rfl rfl (by simp;omega) (by simp;omega) ?_|refine DW_app0 tabOK rfl (by simp;omega) (by simp;omega) ?_)
  exact⟨rfl,_,rfl,_,rfl,SubC.of_closed (closed_strA ([],1))⟩
 ·rw[h] at k1
  rw[if_pos rfl]
  have hin:=mtL_in h
  have hlen:=mtL_len h
  repeat' (first|refine DW_raw rfl lays169.v72 ?_|refine DW_VI tabs rfl lc ?_|refine DW_A tabs rfl ?_|refine DW_nil ?_|refine W_A rfl ?_|refine DW_C rfl k1 ?_|refine DW_row tabOK rfl ?_|refine DW_app tabOK rfl rfl (by simp;omega) (by simp;omega) ?_|refine DW_app0 tabOK rfl (by simp;omega) (by simp;omega) ?_)
  have hl3:((([AV.int .i64 m.size,AV.int .i64 m.mode,AV.int .i64 (m.ch.length:Int)]++m.ch.map fun n=>AV.int .i64 n).length:Nat):Int)=((mtL m).length:Int):=by simp[mtL]
  rw[hl3]
  have hc0:∀i,0 < i→catN ((mtL m).take i)≠[]:=by
   intro i hi
   obtain⟨j,rfl⟩:∃j,i=j+1:=⟨i - 1,by omega⟩
   unfold catN mtL putN
   simp
  refine W_count (mtL m).length (fun i f N=>BldI 2 (catN ((mtL m).take i)) N∧f=⟨[(4,.ptr 0 0),(22,iA (mtL m) .none),(23,.int .i64 ((mtL m).length:Int)),(24,.int .i64 (i:Int))],[]⟩) (Nat.zero_le _) ⟨.inl ⟨rfl,rfl⟩,rfl⟩ (Joint.le ?_ (Mem.le_cons rfl (Mem.le_nil rfl))) ?_
  ·have h22:∀t,Sub (.sl 1 ([AV.int .i64 m.size,AV.int .i64 m.mode,AV.int .i64 (m.ch.length:Int)]++m.ch.map fun n=>AV.int .i64 n) t) (iA (mtL m) .none):=by
    intro t
    unfold iA mtL
    rw[List.map_append]
    exact Sub.untag
   repeat' (first|exact AF.le_nil rfl|refine AF.le_cons rfl ?_|refine AF.le_sub (h22 _) ?_)
  rintro i f N hi ⟨hN,rfl⟩
  by_cases h1:i < (mtL m).length
  ·have d1:decide ((i:Int) < ((mtL m).length:Int))=true:=by simp;omega
   have hx:(mtL m)[i]? =some (mtL m)[i]:=List.getElem?_eq_getElem h1
   have fi:=wrap_succ (i:=i) (by omega)
   have ht:=take_succ hx
   have hm:=hin _ (List.getElem_mem h1)
   generalize (mtL m)[i]=x at hx ht hm
   have kx:=number_nat (m:=x.toNat) (by omega)
   rw[show ((x.toNat:Nat):Int)=x by omega] at kx
   have lx:=putN_len x.toNat
   have lc2:=catN_len ((mtL m).take i)
   rw[List.length_take] at lc2
   unfold iA
   repeat' (first|refine DW_raw rfl lays169.v72 ?_|refine DW_VB tabs rfl d1 ?_|refine DW_VI tabs rfl fi ?_|refine DW_A tabs rfl ?_|refine DW_nil ?_|refine W_A rfl ?_|refine DW_C rfl kx ?_|refine DW_ix tabOK rfl (ixN hx) ?_|refine DW_row tabOK rfl ?_|refine DW_app tabOK rfl rfl (by simp;omega) (by simp;omega) ?_|refine DW_app0 tabOK rfl (by simp;omega) (by simp;omega) ?_)
   refine DW_CM rfl rfl (bWrite (by decide) hN (by simp[putN]) (by omega)) ?_ (fun u M' h=>by cases h.1)
   rintro u N' ⟨e,N2,hN2,hle⟩
   cases e
   repeat' (first|refine DW_raw rfl lays169.v72 ?_|refine DW_VI tabs rfl fi ?_|refine DW_A tabs rfl ?_|refine DW_nil ?_|refine W_A rfl ?_|refine DW_row tabOK rfl ?_|refine DW_app tabOK rfl rfl (by simp;omega) (by simp;omega) ?_|refine DW_app0 tabOK rfl (by simp;omega) (by simp;omega) ?_)
   refine⟨h1,_,_,⟨?_,rfl⟩,Joint.le ?_ hle⟩
   ·rw[catN_take ht]
    exact hN2
   ·skip
    repeat (refine AF.le_cons rfl ?_)
    exact AF.le_nil rfl
  ·have d1:decide ((i:Int) < ((mtL m).length:Int))=false:=by simp;omega
   obtain rfl:i=(mtL m).length:=by omega
   rw[List.take_length] at hN
   have lc2:=catN_len (mtL m)
   repeat' (first|refine DW_raw rfl lays169.v72 ?_|refine DW_VB tabs rfl d1 ?_|refine DW_A tabs rfl ?_|refine DW_nil ?_|refine W_A rfl ?_|refine DW_row tabOK rfl ?_|refine DW_app tabOK rfl rfl (by simp;omega) (by simp;omega) ?_|refine DW_app0 tabOK rfl (by simp;omega) (by simp;omega) ?_)
   refine DW_CM rfl rfl (bTell (by decide) hN ?_ (by omega)) ?_ (fun u M' h=>by cases h.1)
   ·have:=hc0 (mtL m).length (by unfold mtL;simp)
    rw[List.take_length] at this
    exact this
   rintro u N' ⟨e,hn⟩
   cases e
   repeat' (first|refine DW_raw rfl lays169.v72 ?_|refine DW_A tabs rfl ?_|refine DW_nil ?_|refine W_A rfl ?_|refine DW_row tabOK rfl ?_|refine DW_app tabOK rfl rfl (by simp;omega) (by simp;omega) ?_|refine DW_app0 tabOK rfl (by simp;omega) (by simp;omega) ?_)
   exact⟨rfl,_,rfl,_,rfl,SubC.of_closed (closed_strA (catN (mtL m),0))⟩
set_option maxRecDepth 100000 in
set_option maxHeartbeats 8000000 in
theorem value_ok (m:Mt) (no:Bool) (hl:m.ch.length < 1000000):APure Tryz.prog 56 [m.av,.bool no] (strA (valueM m no)):=by
 refine pure_sub (closed2 (closed_mt m) closed_bool) (closed_strA _) ?_
 refine acalls_of tabOK Tryz.func56 rfl (by decide) (by simp[Tryz.f56]) ?_
 have k1:=putM_ok m hl
 unfold valueM
 cases no
 ·unfold putM at k1 ⊢
  cases h:isM m
  ·rw[h,if_neg (by simp)] at k1
   rw[if_neg (by simp),if_neg (by simp)]
   repeat' (first|refine DW_A tabs rfl ?_|refine DW_nil ?_|refine W_A rfl ?_|refine DW_C rfl k1 ?_)
   exact⟨rfl,_,rfl,_,rfl,SubC.of_closed (closed_strA ([],1))⟩
  ·rw[h,if_pos rfl] at k1
   rw[if_neg (by simp),if_pos rfl]
   have lb:=catN_len (mtL m)
   have lm:=mtL_len h
   have hcat:[1].length+(catN (mtL m)).length≤9223372036854775807∧[1]++catN (mtL m)=1::catN (mtL m):=⟨by simp;omega,rfl⟩
   repeat' (first|refine DW_A tabs rfl ?_|refine DW_nil ?_|refine W_A rfl ?_|refine DW_C rfl k1 ?_|refine DW_cat rfl (hcat) ?_)
   exact⟨rfl,_,rfl,_,rfl,SubC.of_closed (closed_strA (1::catN (mtL m),0))⟩
 ·rw[if_pos rfl]
  repeat' (first|refine DW_A tabs rfl ?_|refine DW_nil ?_|refine W_A rfl ?_)
  exact⟨rfl,_,rfl,_,rfl,SubC.of_closed (closed_strA ([0],0))⟩
end Go.Proofs.YtbcaejhhgkcgpaaGreatDoor
namespace Go.Proofs.YtbcaejhhgkcgpaaGreatDoor
open Go.Ab
def tgB (b:Bool):Tag:=if b=true then .full else .none
def idxI {α:Type} (l:List α) (p:α→Bool):Int:=if l.findIdx p < l.length then (l.findIdx p:Int) else -1
theorem idx_none {α:Type} {l:List α} {p:α→Bool} (h:∀(j:Nat) x,l[j]? =some x→p x=false):idxI l p=-1:=by
 unfold idxI
 rw[if_neg]
 intro hl
 have h1:=List.findIdx_getElem (w:=hl)
 rw[h _ _ (List.getElem?_eq_getElem hl)] at h1
 cases h1
theorem idx_hit {α:Type} {l:List α} {p:α→Bool} {i:Nat} {x:α} (h:∀(j:Nat) y,j < i→l[j]? =some y→p y=false) (hx:l[i]? =some x) (hp:p x=true):idxI l p=i:=by
 obtain⟨hi,rfl⟩:=List.getElem?_eq_some_iff.1 hx
 have h1:l.findIdx p=i:=by
  rw[List.findIdx_eq hi]
  refine⟨hp,fun j hj=>?_⟩
  have:=h j l[j] hj (List.getElem?_eq_getElem (by omega))
  simpa using this
 unfold idxI
 rw[h1,if_pos hi]
theorem slL {sz:Nat} {xs ys:List AV} {t:Tag} (hx:∀x,x∈xs→x.cells.length=sz) (hy:∀y,y∈ys→y.cells.length=sz) (hl:xs.length=ys.length) (h:∀(i:Nat) (x y:AV) (j:Nat) (a b:AV),xs[i]? =some x→ys[i]? =some y→x.cells[j]? =some a→y.cells[j]? =some b→Ab.Sub a b):Ab.Sub (.sl sz xs t) (.sl sz ys t):=by
 intro μ F w v hr
 cases hr with
 |sl _ _ _ A cap ad vals hsz hcap hA hone hcell hrep htag=>
  have get:∀(i:Nat) (y:AV) (j:Nat) (b:AV),ys[i]? =some y→y.cells[j]? =some b→∃x a,xs[i]? =some x∧x.cells[j]? =some a:=by
   intro i y j b h1 h2
   have hi:i < xs.length:=by rw[hl];exact (List.getElem?_eq_some_iff.1 h1).1
   have hj:j < sz:=by rw[←hy y (List.mem_of_getElem? h1)];exact (List.getElem?_eq_some_iff.1 h2).1
   have hm:=hx xs[i] (List.getElem_mem hi)
   exact⟨xs[i],_,List.getElem?_eq_getElem hi,List.getElem?_eq_getElem (by rw[hm];exact hj)⟩
  rw[hl] at hcap hA htag ⊢
  refine .sl sz ys t A cap ad vals hy hcap hA ?_ ?_ ?_ htag
  ·intro i y j b h1 h2
   obtain⟨x,a,h3,h4⟩:=get i y j b h1 h2
   exact hone i x j a h3 h4
  ·intro i y j b h1 h2
   obtain⟨x,a,h3,h4⟩:=get i y j b h1 h2
   exact hcell i x j a h3 h4
  ·intro i y j b h1 h2
   obtain⟨x,a,h3,h4⟩:=get i y j b h1 h2
   exact h i x y j a b h3 h1 h4 h2 μ F w _ (hrep i x j a h3 h4)
end Go.Proofs.YtbcaejhhgkcgpaaGreatDoor
namespace Go.Proofs.YtbcaejhhgkcgpaaGreatDoor
open Go.Ab
structure Ch where
 path:Bytes
 gone:Bool
 meta_:Mt
deriving DecidableEq
def Ch.cells (c:Ch):List AV:=[.str c.path,.bool c.gone,.int .i64 c.meta_.size,.int .i64 c.meta_.mode,iA c.meta_.ch .none]
def Ch.av (c:Ch):AV:=.agg c.cells
theorem closed_chc (c:Ch):∀x,x∈c.cells→Closed x:=by
 intro x hx
 simp[Ch.cells] at hx
 rcases hx with rfl|rfl|rfl|rfl|rfl
 ·exact closed_str
 ·exact closed_bool
 ·exact closed_int
 ·exact closed_int
 ·exact closed_iA _ (.inl rfl)
theorem closed_ch (c:Ch):Closed c.av:=closed_agg (closed_chc c)
theorem chs_cells (l:List Ch):∀x,x∈l.map Ch.av→∀c,c∈x.cells→Closed c:=by
 intro x hx
 obtain⟨p,_,rfl⟩:=List.mem_map.1 hx
 exact closed_chc p
def chA (l:List Ch) (t:Tag):AV:=.sl 5 (l.map Ch.av) t
theorem closed_chs (l:List Ch) {t:Tag} (ht:t=.none∨t=.full):Closed (chA l t):=closed_sl ht (fun x hx=>by obtain⟨p,_,rfl⟩:=List.mem_map.1 hx;exact closed_ch p) (chs_cells l)
def zeroB (m:Mt):Bool:=decide (m.size=0)&&decide (m.mode=0)&&decide ((m.ch.length:Int)=0)
def mayB (c:Ch):Bool:=!(c.path==[])&&isPathB c.path&&isM c.meta_&&(!c.gone||zeroB c.meta_)
abbrev RiseC (l:List Ch):Prop:=l.Pairwise fun a b=>bl a.path b.path=true
def batchB (l:List Ch):Bool:=decide (1≤l.length)&&decide (l.length≤20)&&l.all mayB&&decide (RiseC l)
def shortCh (c:Ch):Prop:=c.path.length < 1000000∧c.meta_.ch.length < 1000000
theorem cmpL_neg:∀a b:Bytes,decide (0≤Lib.compareBytes a b)=!bl a b
 |[],[]=>rfl
 |[],_::_=>rfl
 |_::_,[]=>rfl
 |a::x,b::y=>by
  unfold Lib.compareBytes Op.bytesLess
  by_cases h1:a < b
  ·simp[h1]
  ·by_cases h2:b < a
   ·have:a≠b:=fun e=>by subst e;exact absurd h2 (by simp)
    simp[h1,h2,this]
   ·have:a=b:=UInt8.le_antisymm (UInt8.not_lt.1 h2) (UInt8.not_lt.1 h1)
    subst this
    simp only[h1,if_false,BEq.rfl,Bool.true_and,decide_false,Bool.false_or]
    exact cmpL_neg x y
theorem cmp_ext (a b:Bytes):AExt Tryz.prog 213 [.str a,.str b] (.int .i64 (Lib.compareBytes a b)):=by
 intro μ F w vs hv
 obtain⟨hl,hr⟩:=hv
 match vs,hl with
 |⟨[x,y]⟩,_=>
  have h1:=hr 0 _ x rfl rfl
  have h2:=hr 1 _ y rfl rfl
  cases h1
  cases h2
  refine⟨_,?_,.int _ _⟩
  have:=run_callFunc_extern (P:=Tryz.prog) Tryz.func213 (by kernel_rfl) (by kernel_rfl) (by kernel_rfl) (e:=Extern.BytealgCompare.compare) (by kernel_rfl) #[.string ⟨a.toArray⟩,.string ⟨b.toArray⟩] w
  rw[Lib.run_compareString] at this
  simpa [Result.andThen] using this
set_option maxRecDepth 100000 in
set_option maxHeartbeats 8000000 in
theorem cmpStr_ok (a b:Bytes):APure Tryz.prog 173 [.str a,.str b] (.int .i64 (Lib.compareBytes a b)):=by
 intro M
 refine acalls_of tabOK Tryz.func173 rfl (by decide) (by simp[Tryz.f173]) ?_
 repeat' (first|refine DW_A tabs rfl ?_|refine DW_nil ?_|refine W_A rfl ?_)
 refine DW_ext rfl rfl rfl rfl rfl (cmp_ext a b) ?_
 repeat' (first|refine DW_A tabs rfl ?_|refine DW_nil ?_|refine W_A rfl ?_)
 exact⟨rfl,_,rfl,rfl,rfl⟩
set_option maxRecDepth 100000 in
set_option maxHeartbeats 8000000 in
theorem sCompare_ok (a b:Bytes):APure Tryz.prog 107 [.str a,.str b] (.int .i64 (Lib.compareBytes a b)):=by
 intro M
 refine acalls_of tabOK Tryz.func107 rfl (by decide) (by simp[Tryz.f107]) ?_
 have k:=cmpStr_ok a b
 repeat' (first|refine DW_A tabs rfl ?_|refine DW_nil ?_|refine W_A rfl ?_|refine DW_C rfl k ?_)
 exact⟨rfl,_,rfl,rfl,rfl⟩
set_option maxRecDepth 100000 in
set_option maxHeartbeats 8000000 in
theorem chTo_ok (a b:Ch):APure Tryz.prog 53 [a.av,b.av] (.int .i64 (Lib.compareBytes a.path b.path)):=by
 intro M
 refine acalls_of tabOK Tryz.func53 rfl (by decide) (by simp[Tryz.f53]) ?_
 have k:=sCompare_ok a.path b.path
 repeat' (first|refine DW_A tabs rfl ?_|refine DW_nil ?_|refine W_A rfl ?_|refine DW_C rfl k ?_)
 exact⟨rfl,_,rfl,rfl,rfl⟩
theorem zero_cases (c:Ch):(decide (c.meta_.size=0)=false∧zeroB c.meta_=false)∨(decide (c.meta_.size=0)=true∧decide (c.meta_.mode=0)=false∧zeroB c.meta_=false)∨(decide (c.meta_.size=0)=true∧decide (c.meta_.mode=0)=true∧zeroB c.meta_=decide ((c.meta_.ch.length:Int)=0)):=by
 unfold zeroB
 cases decide (c.meta_.size=0)<;>cases decide (c.meta_.mode=0)<;>simp
theorem may_cases (c:Ch):((!(c.path==[]))=false∧mayB c=false)∨((!(c.path==[]))=true∧isPathB c.path=false∧mayB c=false)∨((!(c.path==[]))=true∧isPathB c.path=true∧isM c.meta_=false∧mayB c=false)∨
  ((!(c.path==[]))=true∧isPathB c.path=true∧isM c.meta_=true∧(!c.gone)=true∧mayB c=true)∨((!(c.path==[]))=true∧isPathB c.path=true∧isM c.meta_=true∧(!c.gone)=false∧mayB c=zeroB c.meta_):=by
 unfold mayB
 cases (!(c.path==[]))<;>cases isPathB c.path<;>cases isM c.meta_<;>cases c.gone<;>simp
set_option maxRecDepth 100000 in
set_option maxHeartbeats 8000000 in
theorem may_ok (c:Ch) (hs:shortCh c):APure Tryz.prog 104 [c.av] (.bool (mayB c)):=by
 intro M
 refine acalls_of tabOK Tryz.func104 rfl (by decide) (by simp[Tryz.f104]) ?_
 have k1:=isPath_ok c.path (by have:=hs.1;omega)
 have k2:=mIs_ok c.meta_ hs.2
 have lc:=len_map (fun n=>AV.int .i64 n) c.meta_.ch
 rcases may_cases c with ⟨d1,e⟩|⟨d1,d2,e⟩|⟨d1,d2,d3,e⟩|⟨d1,d2,d3,d5,e⟩|⟨d1,d2,d3,d5,e⟩
 ·rw[e]
  rcases zero_cases c with ⟨z1,_⟩|⟨z1,z2,_⟩|⟨z1,z2,_⟩
  ·repeat' (first|refine DW_VB tabs rfl (by first|exact d1|exact z1) ?_|refine DW_VI tabs rfl lc ?_|refine DW_A tabs rfl ?_|refine DW_nil ?_|refine W_A rfl ?_)
   exact⟨rfl,_,rfl,rfl,rfl⟩
  ·repeat' (first|refine DW_VB tabs rfl (by first|exact d1|exact z1|exact z2) ?_|refine DW_VI tabs rfl lc ?_|refine DW_A tabs rfl ?_|refine DW_nil ?_|refine W_A rfl ?_)
   exact⟨rfl,_,rfl,rfl,rfl⟩
  ·repeat' (first|refine DW_VB tabs rfl (by first|exact d1|exact z1|exact z2) ?_|refine DW_VI tabs rfl lc ?_|refine DW_A tabs rfl ?_|refine DW_nil ?_|refine W_A rfl ?_)
   exact⟨rfl,_,rfl,rfl,rfl⟩
 ·rw[e]
  rw[d2] at k1
  rcases zero_cases c with ⟨z1,_⟩|⟨z1,z2,_⟩|⟨z1,z2,_⟩
  ·repeat' (first|refine DW_VB tabs rfl (by first|exact d1|exact z1) ?_|refine DW_VI tabs rfl lc ?_|refine DW_A tabs rfl ?_|refine DW_nil ?_|refine W_A rfl ?_|refine DW_C rfl k1 ?_)
   exact⟨rfl,_,rfl,rfl,rfl⟩
  ·repeat' (first|refine DW_VB tabs rfl (by first|exact d1|exact z1|exact z2) ?_|refine DW_VI tabs rfl lc ?_|refine DW_A tabs rfl ?_|refine DW_nil ?_|refine W_A rfl ?_|refine DW_C rfl k1 ?_)
   exact⟨rfl,_,rfl,rfl,rfl⟩
  ·repeat' (first|refine DW_VB tabs rfl (by first|exact d1|exact z1|exact z2) ?_|refine DW_VI tabs rfl lc ?_|refine DW_A tabs rfl ?_|refine DW_nil ?_|refine W_A rfl ?_|refine DW_C rfl k1 ?_)
   exact⟨rfl,_,rfl,rfl,rfl⟩
 ·rw[e]
  rw[d2] at k1
  rw[d3] at k2
  rcases zero_cases c with ⟨z1,_⟩|⟨z1,z2,_⟩|⟨z1,z2,_⟩
  ·repeat' (first|refine DW_VB tabs rfl (by first|exact d1|exact z1) ?_|refine DW_VI tabs rfl lc ?_|refine DW_A tabs rfl ?_|refine DW_nil ?_|refine W_A rfl ?_|refine DW_C rfl k1 ?_|refine DW_C rfl k2 ?_)
   exact⟨rfl,_,rfl,rfl,rfl⟩
  ·repeat' (first|refine DW_VB tabs rfl (by first|exact d1|exact z1|exact z2) ?_|refine DW_VI tabs rfl lc ?_|refine DW_A tabs rfl ?_|refine DW_nil ?_|refine W_A rfl ?_|refine DW_C rfl k1 ?_|refine DW_C rfl k2 ?_)
   exact⟨rfl,_,rfl,rfl,rfl⟩
  ·repeat' (first|refine DW_VB tabs rfl (by first|exact d1|exact z1|exact z2) ?_|refine DW_VI tabs rfl lc ?_|refine DW_A tabs rfl ?_|refine DW_nil ?_|refine W_A rfl ?_|refine DW_C rfl k1 ?_|refine DW_C rfl k2 ?_)
   exact⟨rfl,_,rfl,rfl,rfl⟩
 ·rw[e]
  rw[d2] at k1
  rw[d3] at k2
  rcases zero_cases c with ⟨z1,_⟩|⟨z1,z2,_⟩|⟨z1,z2,_⟩
  ·repeat' (first|refine DW_VB tabs rfl (by first|exact d1|exact z1|exact d5) ?_|refine DW_VI tabs rfl lc ?_|refine DW_A tabs rfl ?_|refine DW_nil ?_|refine W_A rfl ?_|refine DW_C rfl k1 ?_|refine DW_C rfl k2 ?_)
   exact⟨rfl,_,rfl,rfl,rfl⟩
  ·repeat' (first|refine DW_VB tabs rfl (by first|exact d1|exact z1|exact z2|exact d5) ?_|refine DW_VI tabs rfl lc ?_|refine DW_A tabs rfl ?_|refine DW_nil ?_|refine W_A rfl ?_|refine DW_C rfl k1 ?_|refine DW_C rfl k2 ?_)
   exact⟨rfl,_,rfl,rfl,rfl⟩
  ·repeat' (first|refine DW_VB tabs rfl (by first|exact d1|exact z1|exact z2|exact d5) ?_|refine DW_VI tabs rfl lc ?_|refine DW_A tabs rfl ?_|refine DW_nil ?_|refine W_A rfl ?_|refine DW_C rfl k1 ?_|refine DW_C rfl k2 ?_)
   exact⟨rfl,_,rfl,rfl,rfl⟩
 ·rw[e]
  rw[d2] at k1
  rw[d3] at k2
  rcases zero_cases c with ⟨z1,h⟩|⟨z1,z2,h⟩|⟨z1,z2,h⟩
  ·rw[h]
   repeat' (first|refine DW_VB tabs rfl (by first|exact d1|exact z1|exact d5) ?_|refine DW_VI tabs rfl lc ?_|refine DW_A tabs rfl ?_|refine DW_nil ?_|refine W_A rfl ?_|refine DW_C rfl k1 ?_|refine DW_C rfl k2 ?_)
   exact⟨rfl,_,rfl,rfl,rfl⟩
  ·rw[h]
   repeat' (first|refine DW_VB tabs rfl (by first|exact d1|exact z1|exact z2|exact d5) ?_|refine DW_VI tabs rfl lc ?_|refine DW_A tabs rfl ?_|refine DW_nil ?_|refine W_A rfl ?_|refine DW_C rfl k1 ?_|refine DW_C rfl k2 ?_)
   exact⟨rfl,_,rfl,rfl,rfl⟩
  ·rw[h]
   repeat' (first|refine DW_VB tabs rfl (by first|exact d1|exact z1|exact z2|exact d5) ?_|refine DW_VI tabs rfl lc ?_|refine DW_A tabs rfl ?_|refine DW_nil ?_|refine W_A rfl ?_|refine DW_C rfl k1 ?_|refine DW_C rfl k2 ?_)
   exact⟨rfl,_,rfl,rfl,rfl⟩
set_option maxRecDepth 100000 in
set_option maxHeartbeats 8000000 in
theorem odd1_ok (c:Ch) (hs:shortCh c):APure Tryz.prog 103 [c.av] (.bool (!mayB c)):=by
 intro M
 refine acalls_of tabOK Tryz.func103 rfl (by decide) (by simp[Tryz.f103]) ?_
 have k:=may_ok c hs
 repeat' (first|refine DW_A tabs rfl ?_|refine DW_nil ?_|refine W_A rfl ?_|refine DW_C rfl k ?_)
 exact⟨rfl,_,rfl,rfl,rfl⟩
set_option maxRecDepth 100000 in
theorem indexC_ok (l:List Ch) (tg:Tag) (hl:l.length < 1000000) (g:FuncId) (fi ca:List AV) (p:Ch→Bool) (hp:∀x,x∈l→APure Tryz.prog g (fi++[x.av]++ca) (.bool (p x))):APure Tryz.prog 161 [.sl 5 (l.map Ch.av) tg,.fn (.func g) fi ca] (.int .i64 (idxI l p)):=by
 intro M
 refine acalls_of tabOK Tryz.func161 rfl (by decide) (by simp[Tryz.f161]) ?_
 have la:((l.map Ch.av).length:Int)=(l.length:Int):=by simp
 repeat' (first|refine DW_VI tabs rfl la ?_|refine DW_A tabs rfl ?_|refine DW_nil ?_|refine W_A rfl ?_)
 refine W_count l.length (fun i f N=>N=M∧(∀(j:Nat) y,j < i→l[j]? =some y→p y=false)∧f=⟨[(0,.sl 5 (l.map Ch.av) tg),(1,.fn (.func g) fi ca),(7,.int .i64 (l.length:Int)),(8,.int .i64 (i:Int))],[]⟩) (Nat.zero_le _) ⟨rfl,fun j y hj=>absurd hj (Nat.not_lt_zero _),rfl⟩ (Joint.le ?_ (Mem.le_refl _)) ?_
 ·skip
  repeat (refine AF.le_cons rfl ?_)
  exact AF.le_nil rfl
 ·rintro i f N hi ⟨rfl,hno,rfl⟩
  by_cases h1:i < l.length
  ·have d1:decide ((i:Int) < (l.length:Int))=true:=by simp;omega
   have hx:l[i]? =some l[i]:=List.getElem?_eq_getElem h1
   have fi:=wrap_succ (i:=i) (by omega)
   have hk:=hp l[i] (List.getElem_mem h1)
   generalize l[i]=x at hx hk
   cases hpx:p x
   ·rw[hpx] at hk
    repeat' (first|refine DW_VB tabs rfl d1 ?_|refine DW_VI tabs rfl (by first|exact fi|exact la) ?_|refine DW_A tabs rfl ?_|refine DW_nil ?_|refine W_A rfl ?_)
    refine DW_ix tabOK rfl (ixN hx) ?_
    repeat' (first|refine DW_VB tabs rfl d1 ?_|refine DW_VI tabs rfl (by first|exact fi|exact la) ?_|refine DW_A tabs rfl ?_|refine DW_nil ?_|refine W_A rfl ?_|refine DW_C rfl hk ?_)
    refine⟨h1,_,_,⟨rfl,?_,rfl⟩,Joint.le ?_ (Mem.le_refl _)⟩
    ·intro j y hj hy
     by_cases hji:j=i
     ·subst hji
      rw[hx] at hy
      cases hy
      exact hpx
     ·exact hno j y (by omega) hy
    ·skip
     repeat (refine AF.le_cons rfl ?_)
     exact AF.le_nil rfl
   ·rw[hpx] at hk
    repeat' (first|refine DW_VB tabs rfl d1 ?_|refine DW_VI tabs rfl (by first|exact fi|exact la) ?_|refine DW_A tabs rfl ?_|refine DW_nil ?_|refine W_A rfl ?_)
    refine DW_ix tabOK rfl (ixN hx) ?_
    repeat' (first|refine DW_VB tabs rfl d1 ?_|refine DW_VI tabs rfl (by first|exact fi|exact la) ?_|refine DW_A tabs rfl ?_|refine DW_nil ?_|refine W_A rfl ?_|refine DW_C rfl hk ?_)
    exact⟨rfl,_,rfl,by rw[idx_hit hno hx hpx];rfl,rfl⟩
  ·have d1:decide ((i:Int) < (l.length:Int))=false:=by simp;omega
   obtain rfl:i=l.length:=by omega
   repeat' (first|refine DW_VB tabs rfl d1 ?_|refine DW_A tabs rfl ?_|refine DW_nil ?_|refine W_A rfl ?_)
   exact⟨rfl,_,rfl,by rw[idx_none (fun j y hy=>hno j y (List.getElem?_eq_some_iff.1 hy).1 hy)];rfl,rfl⟩
theorem idx_any {α:Type} (l:List α) (p:α→Bool):decide (0≤idxI l p)=l.any p:=by
 cases h:l.any p
 ·rw[List.any_eq_false] at h
  rw[idx_none (fun j x hx=>by have:=h x (List.mem_of_getElem? hx);simpa using this)]
  rfl
 ·rw[List.any_eq_true] at h
  obtain⟨x,hx,hp⟩:=h
  unfold idxI
  rw[if_pos (List.findIdx_lt_length_of_exists ⟨x,hx,hp⟩)]
  exact decide_eq_true (Int.natCast_nonneg _)
set_option maxRecDepth 100000 in
set_option maxHeartbeats 8000000 in
theorem contC_ok (l:List Ch) (tg:Tag) (hl:l.length < 1000000) (hs:∀c,c∈l→shortCh c):APure Tryz.prog 102 [chA l tg,.fn (.func 103) [] []] (.bool (l.any fun c=>!mayB c)):=by
 intro M
 refine acalls_of tabOK Tryz.func102 rfl (by decide) (by simp[Tryz.f102]) ?_
 have k:=indexC_ok l tg hl 103 [] [] (fun c=>!mayB c) (fun x hx=>odd1_ok x (hs x hx))
 have e:=idx_any l (fun c=>!mayB c)
 unfold chA
 repeat' (first|refine DW_VB tabs rfl e ?_|refine DW_A tabs rfl ?_|refine DW_nil ?_|refine W_A rfl ?_|refine DW_C rfl k ?_)
 exact⟨rfl,_,rfl,rfl,rfl⟩
set_option maxRecDepth 100000 in
set_option maxHeartbeats 8000000 in
theorem odd_ok (l:List Ch) (tg:Tag) (hl:l.length < 1000000) (hs:∀c,c∈l→shortCh c):APure Tryz.prog 49 [chA l tg] (.bool (l.any fun c=>!mayB c)):=by
 intro M
 refine acalls_of tabOK Tryz.func49 rfl (by decide) (by simp[Tryz.f49]) ?_
 have k:=contC_ok l tg hl hs
 unfold chA at k ⊢
 repeat' (first|refine DW_A tabs rfl ?_|refine DW_nil ?_|refine W_A rfl ?_|refine DW_C rfl k ?_)
 exact⟨rfl,_,rfl,rfl,rfl⟩
theorem riseC_adj:∀l:List Ch,(∀(j:Nat) a b,l[j]? =some a→l[j+1]? =some b→bl a.path b.path=true)→RiseC l
 |[],_=>List.Pairwise.nil
 |[a],_=>List.pairwise_cons.2 ⟨by simp,List.Pairwise.nil⟩
 |a::b::r,h=>by
  have ih:=riseC_adj (b::r) (fun j x y hx hy=>h (j+1) x y hx hy)
  have h0:=h 0 a b rfl rfl
  refine List.pairwise_cons.2 ⟨fun x hx=>?_,ih⟩
  rcases List.mem_cons.1 hx with rfl|hx
  ·exact h0
  ·exact bl_trans h0 ((List.pairwise_cons.1 ih).1 x hx)
theorem riseC_at {l:List Ch} (h:RiseC l) {i:Nat} {a b:Ch} (ha:l[i]? =some a) (hb:l[i+1]? =some b):bl a.path b.path=true:=by
 obtain⟨h1,rfl⟩:=List.getElem?_eq_some_iff.1 ha
 obtain⟨h2,rfl⟩:=List.getElem?_eq_some_iff.1 hb
 exact List.pairwise_iff_getElem.1 h i (i+1) h1 h2 (Nat.lt_succ_self i)
set_option maxRecDepth 100000 in
set_option maxHeartbeats 8000000 in
theorem rise_ok (l:List Ch) (tg:Tag) (hl:l.length < 1000000) (h1:1≤l.length):APure Tryz.prog 61 [chA l tg,.fn (.func 53) [] []] (.bool (decide (RiseC l))):=by
 intro M
 refine acalls_of tabOK Tryz.func61 rfl (by decide) (by simp[Tryz.f61]) ?_
 have la:=len_map Ch.av l
 unfold chA
 repeat' (first|refine DW_VI tabs rfl la ?_|refine DW_A tabs rfl ?_|refine DW_nil ?_|refine W_A rfl ?_|refine W_draw mixed [0,1,2,3,6,7,4,5,8,9,10,11] [.P,.P,.P,.P,.R,.R,.P,.P,.R,.R,.P,.P] rfl rfl (by kernel_rfl) ?_)
 refine W_count l.length (fun i f N=>N=M∧(1≤i∧∀(j:Nat) a b,j+1 < i→l[j]? =some a→l[j+1]? =some b→bl a.path b.path=true)∧f=⟨[(0,.sl 5 (l.map Ch.av) tg),(1,.fn (.func 53) [] []),(5,.int .i64 (i:Int))],[]⟩) (i0:=1) h1 ⟨rfl,⟨Nat.le_refl _,fun j a b hj=>absurd hj (by omega)⟩,rfl⟩ (Joint.le ?_ (Mem.le_refl _)) ?_
 ·skip
  repeat (refine AF.le_cons rfl ?_)
  exact AF.le_nil rfl
 rintro i f N hi ⟨rfl,⟨hi1,hinv⟩,rfl⟩
 by_cases h2:i < l.length
 ·have d1:decide ((i:Int) < (l.length:Int))=true:=by simp;omega
  obtain⟨j,rfl⟩:∃j,i=j+1:=⟨i - 1,by omega⟩
  have hx:l[j]? =some l[j]:=List.getElem?_eq_getElem (by omega)
  have hy:l[j+1]? =some l[j+1]:=List.getElem?_eq_getElem h2
  have fi:=wrap_succ (i:=j+1) (by omega)
  have fj:IntKind.wrap .i64 (((j+1:Nat):Int) - 1)=(j:Int):=(Go.Ab.wrap_small (by omega) (by omega)).trans (by omega)
  generalize l[j]=x at hx
  generalize l[j+1]=y at hy
  have k:=chTo_ok x y
  have e:=cmpL_neg x.path y.path
  cases hb:bl x.path y.path
  ·rw[hb] at e
   rw[decide_eq_false (fun h=>by have:=riseC_at h hx hy;rw[hb] at this;cases this)]
   repeat' (first|refine DW_VB tabs rfl (by first|exact d1|exact e) ?_|refine DW_VI tabs rfl (by first|exact la|exact fi|exact fj) ?_|refine DW_A tabs rfl ?_|refine DW_nil ?_|refine W_A rfl ?_|refine DW_C rfl k ?_|refine DW_ix tabOK rfl (ixN hx) ?_|refine DW_ix tabOK rfl (ixN hy) ?_|refine W_draw mixed [0,1,2,3,6,7,4,5,8,9,10,11] [.P,.P,.P,.P,.R,.R,.P,.P,.R,.R,.P,.P] rfl rfl (by kernel_rfl) ?_)
   exact⟨rfl,_,rfl,rfl,rfl⟩
  ·rw[hb] at e
   repeat' (first|refine DW_VB tabs rfl (by first|exact d1|exact e) ?_|refine DW_VI tabs rfl (by first|exact la|exact fi|exact fj) ?_|refine DW_A tabs rfl ?_|refine DW_nil ?_|refine W_A rfl ?_|refine DW_C rfl k ?_|refine DW_ix tabOK rfl (ixN hx) ?_|refine DW_ix tabOK rfl (ixN hy) ?_|refine W_draw mixed [0,1,2,3,6,7,4,5,8,9,10,11] [.P,.P,.P,.P,.R,.R,.P,.P,.R,.R,.P,.P] rfl rfl (by kernel_rfl) ?_)
   refine⟨h2,_,_,⟨rfl,⟨by omega,?_⟩,rfl⟩,Joint.le ?_ (Mem.le_refl _)⟩
   ·intro q a b hq ha hb2
    by_cases hqj:q=j
    ·subst hqj
     rw[hx] at ha
     rw[hy] at hb2
     cases ha
     cases hb2
     exact hb
    ·exact hinv q a b (by omega) ha hb2
   ·skip
    repeat (refine AF.le_cons rfl ?_)
    exact AF.le_nil rfl
 ·have d1:decide ((i:Int) < (l.length:Int))=false:=by simp;omega
  obtain rfl:i=l.length:=by omega
  rw[decide_eq_true (riseC_adj l fun j a b ha hb=>hinv j a b (List.getElem?_eq_some_iff.1 hb).1 ha hb)]
  repeat' (first|refine DW_VB tabs rfl d1 ?_|refine DW_VI tabs rfl la ?_|refine DW_A tabs rfl ?_|refine DW_nil ?_|refine W_A rfl ?_|refine W_draw mixed [0,1,2,3,6,7,4,5,8,9,10,11] [.P,.P,.P,.P,.R,.R,.P,.P,.R,.R,.P,.P] rfl rfl (by kernel_rfl) ?_)
  exact⟨rfl,_,rfl,rfl,rfl⟩
set_option maxRecDepth 100000 in
set_option maxHeartbeats 8000000 in
theorem bIs_ok (l:List Ch) (tg:Tag) (hl:l.length < 1000000) (hs:∀c,c∈l→shortCh c):APure Tryz.prog 22 [chA l tg] (.bool (batchB l)):=by
 intro M
 refine acalls_of tabOK Tryz.func22 rfl (by decide) (by simp[Tryz.f22]) ?_
 have la:=len_map Ch.av l
 have ko:=odd_ok l tg hl hs
 have e:(l.any fun c=>!mayB c)=!l.all mayB:=by
  rw[List.any_eq_not_all_not]
  simp
 rw[e] at ko
 unfold batchB
 by_cases h1:1≤l.length
 ·have d1:decide ((1:Int)≤(l.length:Int))=true:=by simp;omega
  have kr:=rise_ok l tg hl h1
  rw[decide_eq_true h1]
  by_cases h2:l.length≤20
  ·have d2:decide ((l.length:Int)≤20)=true:=by simp;omega
   rw[decide_eq_true h2]
   cases h3:l.all mayB
   ·rw[h3] at ko
    unfold chA at*
    repeat' (first|refine DW_VB tabs rfl (by first|exact d1|exact d2) ?_|refine DW_VI tabs rfl la ?_|refine DW_A tabs rfl ?_|refine DW_nil ?_|refine W_A rfl ?_|refine DW_C rfl ko ?_)
    exact⟨rfl,_,rfl,rfl,rfl⟩
   ·rw[h3] at ko
    unfold chA at*
    repeat' (first|refine DW_VB tabs rfl (by first|exact d1|exact d2) ?_|refine DW_VI tabs rfl la ?_|refine DW_A tabs rfl ?_|refine DW_nil ?_|refine W_A rfl ?_|refine DW_C rfl ko ?_|refine DW_C rfl kr ?_)
    exact⟨rfl,_,rfl,rfl,rfl⟩
  ·have d2:decide ((l.length:Int)≤20)=false:=by simp;omega
   rw[decide_eq_false h2]
   unfold chA at*
   repeat' (first|refine DW_VB tabs rfl (by first|exact d1|exact d2) ?_|refine DW_VI tabs rfl la ?_|refine DW_A tabs rfl ?_|refine DW_nil ?_|refine W_A rfl ?_)
   exact⟨rfl,_,rfl,rfl,rfl⟩
 ·have d1:decide ((1:Int)≤(l.length:Int))=false:=by simp;omega
  rw[decide_eq_false h1]
  unfold chA at*
  repeat' (first|refine DW_VB tabs rfl d1 ?_|refine DW_VI tabs rfl la ?_|refine DW_A tabs rfl ?_|refine DW_nil ?_|refine W_A rfl ?_)
  exact⟨rfl,_,rfl,rfl,rfl⟩
theorem may_value {c:Ch} (h:mayB c=true):(valueM c.meta_ c.gone).2=0:=by
 unfold mayB at h
 simp at h
 unfold valueM putM
 rw[if_pos h.1.2]
 split<;>rfl
end Go.Proofs.YtbcaejhhgkcgpaaGreatDoor
namespace Go.Proofs.YtbcaejhhgkcgpaaGreatDoor
open Go.Ab
def bigCh (c:Ch):Bool:=decide (200 < c.path.length)||decide (30 < c.meta_.ch.length)
def bigC (l:List Ch):Bool:=decide (50 < l.length)||l.any bigCh
theorem bigC_no {l:List Ch} (h:bigC l=false):l.length≤50∧∀c,c∈l→c.path.length≤200∧c.meta_.ch.length≤30:=by
 unfold bigC bigCh at h
 simp only[Bool.or_eq_false_iff,decide_eq_false_iff_not,List.any_eq_false,Bool.or_eq_true,decide_eq_true_eq,not_or] at h
 exact⟨by omega,fun p hp=>by have:=h.2 p hp;omega⟩
set_option maxRecDepth 100000 in
set_option maxHeartbeats 8000000 in
theorem bigC_ok (l:List Ch) (tg:Tag) (hl:l.length < 4611686018427387904):APure Tryz.prog 14 [chA l tg] (.bool (bigC l)):=by
 intro M
 refine acalls_of tabOK Tryz.func14 rfl (by decide) (by simp[Tryz.f14]) ?_
 have la:=len_map Ch.av l
 unfold bigC chA
 by_cases h80:50 < l.length
 ·have d1:decide ((0:Int) < (l.length:Int))=true:=by simp;omega
  have d2:decide ((l.length:Int)≤50)=false:=by simp;omega
  have d3:decide ((50:Int) < (l.length:Int))=true:=by simp;omega
  have e:decide (50 < l.length)=true:=by simp[h80]
  rw[e]
  repeat' (first|refine DW_VB tabs rfl (by first|exact d1|exact d2) ?_|refine DW_VI tabs rfl la ?_|refine DW_A tabs rfl ?_|refine DW_nil ?_|refine W_A rfl ?_)
  refine W_count 0 (fun i f N=>N=M∧f=⟨[(0,.sl 5 (l.map Ch.av) tg),(3,.int .i64 (i:Int))],[]⟩) (Nat.zero_le _) ⟨rfl,rfl⟩ (Joint.le ?_ (Mem.le_refl _)) ?_
  ·skip
   repeat (refine AF.le_cons rfl ?_)
   exact AF.le_nil rfl
  rintro i f N hi ⟨rfl,rfl⟩
  obtain rfl:i=0:=by omega
  repeat' (first|refine DW_VB tabs rfl (by first|exact d1|exact d2|exact d3) ?_|refine DW_VI tabs rfl la ?_|refine DW_A tabs rfl ?_|refine DW_nil ?_|refine W_A rfl ?_)
  exact⟨rfl,_,rfl,rfl,rfl⟩
 ·have d2:decide ((l.length:Int)≤50)=true:=by simp;omega
  have d3:decide ((50:Int) < (l.length:Int))=false:=by simp;omega
  have e:decide (50 < l.length)=false:=by simp;omega
  rw[e,Bool.false_or]
  repeat' (first|refine DW_VB tabs rfl d2 ?_|refine DW_VI tabs rfl la ?_|refine DW_A tabs rfl ?_|refine DW_nil ?_|refine W_A rfl ?_)
  refine W_count l.length (fun i f N=>N=M∧((l.take i).any bigCh=false)∧f=⟨[(0,.sl 5 (l.map Ch.av) tg),(3,.int .i64 (i:Int))],[]⟩) (Nat.zero_le _) ⟨rfl,by simp,rfl⟩ (Joint.le ?_ (Mem.le_refl _)) ?_
  ·skip
   repeat (refine AF.le_cons rfl ?_)
   exact AF.le_nil rfl
  rintro i f N hi ⟨rfl,hinv,rfl⟩
  by_cases h1:i < l.length
  ·have d1:decide ((i:Int) < (l.length:Int))=true:=by simp;omega
   have hx:l[i]? =some l[i]:=List.getElem?_eq_getElem h1
   have fi:=wrap_succ (i:=i) (by omega)
   have ht:=take_succ hx
   have hm:=List.getElem_mem h1
   generalize l[i]=x at hx ht hm
   have e2:(l.take (i+1)).any bigCh=bigCh x:=by rw[ht,List.any_append,hinv];simp
   have hs:bigCh x=true→l.any bigCh=true:=fun h=>List.any_eq_true.2 ⟨x,List.mem_of_getElem? hx,h⟩
   have lx:=len_map (fun n=>AV.int .i64 n) x.meta_.ch
   unfold bigCh at hs e2
   by_cases h5:200 < x.path.length
   ·have d5:decide ((200:Int) < (x.path.length:Int))=true:=by simp;omega
    rw[show l.any bigCh=true from hs (by simp[h5])]
    repeat' (first|refine DW_VB tabs rfl (by first|exact d1|exact d2|exact d5) ?_|refine DW_VI tabs rfl (by first|exact la|exact fi) ?_|refine DW_A tabs rfl ?_|refine DW_nil ?_|refine W_A rfl ?_|refine DW_ix tabOK rfl (ixN hx) ?_)
    exact⟨rfl,_,rfl,rfl,rfl⟩
   ·have d5:decide ((200:Int) < (x.path.length:Int))=false:=by simp;omega
    by_cases h6:30 < x.meta_.ch.length
    ·have d6:decide ((30:Int) < (x.meta_.ch.length:Int))=true:=by simp;omega
     rw[show l.any bigCh=true from hs (by simp[h6])]
     repeat' (first|refine DW_VB tabs rfl (by first|exact d1|exact d2|exact d5|exact d6) ?_|refine DW_VI tabs rfl (by first|exact la|exact lx|exact fi) ?_|refine DW_A tabs rfl ?_|refine DW_nil ?_|refine W_A rfl ?_|refine DW_ix tabOK rfl (ixN hx) ?_)
     exact⟨rfl,_,rfl,rfl,rfl⟩
    ·have d6:decide ((30:Int) < (x.meta_.ch.length:Int))=false:=by simp;omega
     repeat' (first|refine DW_VB tabs rfl (by first|exact d1|exact d2|exact d5|exact d6) ?_|refine DW_VI tabs rfl (by first|exact la|exact lx|exact fi) ?_|refine DW_A tabs rfl ?_|refine DW_nil ?_|refine W_A rfl ?_|refine DW_ix tabOK rfl (ixN hx) ?_)
     refine⟨h1,_,_,⟨rfl,by rw[show bigCh=(fun c=>decide (200 < c.path.length)||decide (30 < c.meta_.ch.length)) from rfl,e2];simp[h5,h6],rfl⟩,Joint.le ?_ (Mem.le_refl _)⟩
     repeat (refine AF.le_cons rfl ?_)
     exact AF.le_nil rfl
  ·have d1:decide ((i:Int) < (l.length:Int))=false:=by simp;omega
   obtain rfl:i=l.length:=by omega
   rw[take_all] at hinv
   rw[hinv]
   repeat' (first|refine DW_VB tabs rfl (by first|exact d1|exact d2|exact d3) ?_|refine DW_VI tabs rfl la ?_|refine DW_A tabs rfl ?_|refine DW_nil ?_|refine W_A rfl ?_)
   exact⟨rfl,_,rfl,rfl,rfl⟩
end Go.Proofs.YtbcaejhhgkcgpaaGreatDoor
namespace Go.Proofs.YtbcaejhhgkcgpaaGreatDoor
open Go.Ab
theorem splitOn_none (c:UInt8):∀s:Bytes,(∀b,b∈s→b≠c)→splitOn c s=[s]
 |[],_=>rfl
 |b::l,h=>by
  unfold splitOn
  rw[if_neg (h b (by simp)),splitOn_none c l (fun x hx=>h x (by simp[hx]))]
theorem splitOn_cut (c:UInt8) (r:Bytes):∀s:Bytes,(∀b,b∈s→b≠c)→splitOn c (s++c::r)=s::splitOn c r
 |[],_=>by
  show splitOn c (c::r)=_
  rw[splitOn,if_pos rfl]
 |b::l,h=>by
  show splitOn c (b::(l++c::r))=_
  rw[splitOn,if_neg (h b (by simp)),splitOn_cut c r l (fun x hx=>h x (by simp[hx]))]
structure AtPart (s:Bytes) (out:List Bytes) (frm i:Nat):Prop where
 le:frm≤i
 len:out.length≤frm
 no:∀b,b∈(s.take i).drop frm→b≠47
 eq:splitOn 47 s=out++splitOn 47 (s.drop frm)
theorem AtPart.start (s:Bytes):AtPart s [] 0 0:=⟨Nat.le_refl _,Nat.le_refl _,by simp,by simp⟩
theorem drop_split {s:Bytes} {frm i:Nat} {b:UInt8} (h:frm≤i) (hb:s[i]? =some b):s.drop frm=(s.take i).drop frm++b::s.drop (i+1):=by
 have hi:=(List.getElem?_eq_some_iff.1 hb).1
 have h1:s=s.take i++b::s.drop (i+1):=by
  have:=List.take_append_drop i s
  rw[List.drop_eq_getElem_cons hi,(List.getElem?_eq_some_iff.1 hb).2] at this
  exact this.symm
 calc s.drop frm=(s.take i++b::s.drop (i+1)).drop frm:=by rw[←h1]
  _=(s.take i).drop frm++b::s.drop (i+1):=by
   rw[List.drop_append_of_le_length (by simp;omega)]
theorem AtPart.hit {s:Bytes} {out:List Bytes} {frm i:Nat} (h:AtPart s out frm i) (hb:s[i]? =some 47):AtPart s (out++[(s.take i).drop frm]) (i+1) (i+1):=by
 refine⟨Nat.le_refl _,by have:=h.len;have:=h.le;simp;omega,?_,?_⟩
 ·intro b hm
  have:((s.take (i+1)).drop (i+1))=[]:=by simp
  rw[this] at hm
  simp at hm
 ·rw[h.eq,drop_split h.le hb,splitOn_cut 47 _ _ h.no]
  simp
theorem AtPart.miss {s:Bytes} {out:List Bytes} {frm i:Nat} (h:AtPart s out frm i) {b:UInt8} (hb:s[i]? =some b) (hn:b≠47):AtPart s out frm (i+1):=by
 have hi:=(List.getElem?_eq_some_iff.1 hb).1
 refine⟨by have:=h.le;omega,h.len,?_,h.eq⟩
 intro x hx
 rw[take_succ hb,List.drop_append_of_le_length (by have:=h.le;simp;omega)] at hx
 rcases List.mem_append.1 hx with hx|hx
 ·exact h.no x hx
 ·simp at hx
  exact hx ▸ hn
theorem AtPart.done {s:Bytes} {out:List Bytes} {frm:Nat} (h:AtPart s out frm s.length):out++[s.drop frm]=splitOn 47 s:=by
 rw[h.eq,splitOn_none]
 intro b hb
 have:=h.no b
 rw[List.take_length] at this
 exact this hb
set_option maxRecDepth 100000 in
theorem parts_ok (s:Bytes) (hs:s.length < 1000000):APure Tryz.prog 214 [.str s] (.sl 1 ((splitOn 47 s).map .str) .none):=by
 refine pure_sub (closed1 closed_str) closed_strs ?_
 refine acalls_of tabOK Tryz.func214 rfl (by decide) (by simp[Tryz.f214]) ?_
 repeat' (first|refine DW_A tabs rfl ?_|refine DW_nil ?_|refine W_A rfl ?_|refine DW_row tabOK rfl ?_|refine DW_app tabOK rfl rfl (by simp;omega) (by simp;omega) ?_|refine DW_app0 tabOK rfl (by simp;omega) (by simp;omega) ?_)
 refine W_count s.length (fun i f N=>∃(g frm:Nat) (out:List Bytes),AtPart s out frm i∧N=tokM g∧f=⟨[(0,.str s),(3,.sl 1 (out.map .str) (.tok 0 g)),(4,.int .i64 (frm:Int)),(5,.int .i64 (i:Int))],[]⟩) (Nat.zero_le _) ⟨0,0,[],AtPart.start s,rfl,rfl⟩
  ((Joint.tok 3 rfl (sz':=1) (.inr rfl)).trans (Joint.le ?_ (tokM_of rfl rfl))) ?_
 ·skip
  repeat (refine AF.le_cons rfl ?_)
  exact AF.le_nil rfl
 ·rintro i f N hi ⟨g,frm,out,hA,rfl,rfl⟩
  have hfl:=hA.le
  have hol:=hA.len
  by_cases h1:i < s.length
  ·have d1:decide ((i:Int) < (s.length:Int))=true:=by simp;omega
   have hx:s[i]? =some s[i]:=List.getElem?_eq_getElem h1
   have fi:=wrap_succ (i:=i) (by omega)
   generalize s[i]=b at hx
   by_cases hb:b=47
   ·subst hb
    have d2:decide (((47:UInt8).toNat:Int)=47)=true:=rfl
    repeat' (first|refine DW_VB tabs rfl d1 ?_|refine DW_VI tabs rfl fi ?_|refine DW_A tabs rfl ?_|refine DW_nil ?_|refine W_A rfl ?_|refine DW_row tabOK rfl ?_|refine DW_app tabOK rfl rfl (by simp;omega) (by simp;omega) ?_|refine DW_app0 tabOK rfl (by simp;omega) (by simp;omega) ?_)
    refine DW_byte tabOK rfl rfl rfl rfl rfl rfl rfl rfl (Int.natCast_nonneg _) (c:=47) (by simpa using hx) ?_
    repeat' (first|refine DW_VB tabs rfl d2 ?_|refine DW_VI tabs rfl fi ?_|refine DW_A tabs rfl ?_|refine DW_nil ?_|refine W_A rfl ?_|refine DW_row tabOK rfl ?_|refine DW_app tabOK rfl rfl (by simp;omega) (by simp;omega) ?_|refine DW_app0 tabOK rfl (by simp;omega) (by simp;omega) ?_)
    refine DW_substr tabOK rfl rfl rfl rfl rfl rfl rfl rfl rfl (Int.natCast_nonneg _) (by omega) (by omega) ?_
    repeat' (first|refine DW_VI tabs rfl fi ?_|refine DW_A tabs rfl ?_|refine DW_nil ?_|refine W_A rfl ?_|refine DW_row tabOK rfl ?_|refine DW_app tabOK rfl rfl (by simp;omega) (by simp;omega) ?_|refine DW_app0 tabOK rfl (by simp;omega) (by simp;omega) ?_)
    refine⟨h1,_,_,⟨g+1,i+1,_,hA.hit hx,rfl,rfl⟩,Joint.le (AF.le_cons rfl (AF.le_cons ?_ (AF.le_cons rfl (AF.le_cons rfl (AF.le_nil rfl))))) (tokM_of rfl rfl)⟩
    exact sl_app
   ·have d2:decide ((b.toNat:Int)=47)=false:=by
     simp only[decide_eq_false_iff_not]
     intro h
     apply hb
     apply UInt8.toNat_inj.1
     have:(47:UInt8).toNat=47:=rfl
     omega
    repeat' (first|refine DW_VB tabs rfl d1 ?_|refine DW_VI tabs rfl fi ?_|refine DW_A tabs rfl ?_|refine DW_nil ?_|refine W_A rfl ?_|refine DW_row tabOK rfl ?_|refine DW_app tabOK rfl rfl (by simp;omega) (by simp;omega) ?_|refine DW_app0 tabOK rfl (by simp;omega) (by simp;omega) ?_)
    refine DW_byte tabOK rfl rfl rfl rfl rfl rfl rfl rfl (Int.natCast_nonneg _) (c:=b) (by simpa using hx) ?_
    repeat' (first|refine DW_VB tabs rfl d2 ?_|refine DW_VI tabs rfl fi ?_|refine DW_A tabs rfl ?_|refine DW_nil ?_|refine W_A rfl ?_|refine DW_row tabOK rfl ?_|refine DW_app tabOK rfl rfl (by simp;omega) (by simp;omega) ?_|refine DW_app0 tabOK rfl (by simp;omega) (by simp;omega) ?_)
    refine⟨h1,_,_,⟨g,frm,out,hA.miss hx hb,rfl,rfl⟩,Joint.le ?_ (tokM_of rfl rfl)⟩
    repeat (refine AF.le_cons rfl ?_)
    exact AF.le_nil rfl
  ·have d1:decide ((i:Int) < (s.length:Int))=false:=by simp;omega
   obtain rfl:i=s.length:=by omega
   repeat' (first|refine DW_VB tabs rfl d1 ?_|refine DW_A tabs rfl ?_|refine DW_nil ?_|refine W_A rfl ?_|refine DW_row tabOK rfl ?_|refine DW_app tabOK rfl rfl (by simp;omega) (by simp;omega) ?_|refine DW_app0 tabOK rfl (by simp;omega) (by simp;omega) ?_)
   refine DW_substr tabOK rfl rfl rfl rfl rfl rfl rfl rfl rfl (Int.natCast_nonneg _) (by omega) (by omega) ?_
   repeat' (first|refine DW_A tabs rfl ?_|refine DW_nil ?_|refine W_A rfl ?_|refine DW_row tabOK rfl ?_|refine DW_app tabOK rfl rfl (by simp;omega) (by simp;omega) ?_|refine DW_app0 tabOK rfl (by simp;omega) (by simp;omega) ?_)
   refine⟨rfl,_,rfl,_,rfl,?_⟩
   have hd:=hA.done
   have e:(out.map AV.str)++[.str ((s.take ((s.length:Int)).toNat).drop ((frm:Int)).toNat)]=(splitOn 47 s).map .str:=by
    rw[←hd]
    simp
   rw[←e]
   exact SubC.untag (by rw[e];exact closed_strs)
end Go.Proofs.YtbcaejhhgkcgpaaGreatDoor
