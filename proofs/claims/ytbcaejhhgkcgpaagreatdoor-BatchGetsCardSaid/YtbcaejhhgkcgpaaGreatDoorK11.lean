/- Parts of the proof, one behind the other. No further condition. -/
import Derived.Test.YtbcaejhhgkcgpaaGreatDoorK10
set_option linter.unusedVariables false
set_option linter.unusedSimpArgs false
namespace Go.Proofs.YtbcaejhhgkcgpaaGreatDoor
open Go.Ab
theorem numA_nat {m:Nat} (h:m < 4294967296):numA (m:Int)=.tup [.str (putN m),.int .i64 0]:=if_pos ⟨by omega,by omega⟩
theorem number_nat {m:Nat} (h:m < 4294967296):APure Tryz.prog 62 [.int .i64 (m:Int)] (.tup [.str (putN m),.int .i64 0]):=by
 rw[←numA_nat h]
 exact number_ok _
theorem rNumber_nat {m:Nat} (h:m < 4294967296):APure Tryz.prog 65 [.int .i64 (m:Int)] (.tup [.str (putN m),.int .i64 0]):=by
 rw[←numA_nat h]
 exact rNumber_ok _ (by omega) (by omega)
theorem byteAt_is {n j:Nat} {b:UInt8} (h:n/256^j%256=b.toNat):byteAt n j=b:=by
 unfold byteAt
 rw[h]
 exact UInt8.ofNat_toNat
theorem be4_num (B:Bytes) (h:B.length≤4):be4 (num B)=List.replicate (4 - B.length) 0++B:=by
 have z:((0:UInt8).toNat:Nat)=0:=rfl
 match B,h with
 |[],_=>rfl
 |[a],_=>
  have ha:=a.toNat_lt
  have e:num [a]=a.toNat:=by simp[num]
  rw[e]
  unfold be4
  rw[byteAt_is (b:=0) (j:=3) (by rw[z];omega),byteAt_is (b:=0) (j:=2) (by rw[z];omega),byteAt_is (b:=0) (j:=1) (by rw[z];omega),byteAt_is (b:=a) (j:=0) (by omega)]
  rfl
 |[a,b],_=>
  have ha:=a.toNat_lt
  have hb:=b.toNat_lt
  have e:num [a,b]=a.toNat*256+b.toNat:=by simp[num]
  rw[e]
  unfold be4
  rw[byteAt_is (b:=0) (j:=3) (by rw[z];omega),byteAt_is (b:=0) (j:=2) (by rw[z];omega),byteAt_is (b:=a) (j:=1) (by omega),byteAt_is (b:=b) (j:=0) (by omega)]
  rfl
 |[a,b,c],_=>
  have ha:=a.toNat_lt
  have hb:=b.toNat_lt
  have hc:=c.toNat_lt
  have e:num [a,b,c]=(a.toNat*256+b.toNat)*256+c.toNat:=by simp[num]
  rw[e]
  unfold be4
  rw[byteAt_is (b:=0) (j:=3) (by rw[z];omega),byteAt_is (b:=a) (j:=2) (by omega),byteAt_is (b:=b) (j:=1) (by omega),byteAt_is (b:=c) (j:=0) (by omega)]
  rfl
 |[a,b,c,d],_=>
  have ha:=a.toNat_lt
  have hb:=b.toNat_lt
  have hc:=c.toNat_lt
  have hd:=d.toNat_lt
  have e:num [a,b,c,d]=((a.toNat*256+b.toNat)*256+c.toNat)*256+d.toNat:=by simp[num]
  rw[e]
  unfold be4
  rw[byteAt_is (b:=a) (j:=3) (by omega),byteAt_is (b:=b) (j:=2) (by omega),byteAt_is (b:=c) (j:=1) (by omega),byteAt_is (b:=d) (j:=0) (by omega)]
  rfl
 |_::_::_::_::_::_,h=>simp at h
theorem drop0 (k:Nat) (B:Bytes):(List.replicate k 0++B).dropWhile (·==0)=B.dropWhile (·==0):=by
 induction k with
 |zero=>rfl
 |succ k ih=>simp[List.replicate_succ,ih]
theorem nb_num {B:Bytes} (h:B.length≤4):nb (num B)=B.dropWhile (·==0):=by
 have e:(be4 (num B)).take 4=be4 (num B):=rfl
 unfold nb nbI
 rw[e,be4_num B h,drop0]
theorem put_num {B:Bytes} {c:UInt8} (h:B.length≤4) (hc:c.toNat=B.length):(putN (num B)==c::B)=!(decide (B.head?=some 0)):=by
 unfold putN
 rw[nb_num h]
 cases B with
 |nil=>
  have:c=UInt8.ofNat 0:=UInt8.toNat_inj.1 hc
  subst this
  rfl
 |cons b B=>
  by_cases hb:b=0
  ·subst hb
   have e:((0:UInt8)::B).dropWhile (·==0)=B.dropWhile (·==0):=rfl
   have hl:(B.dropWhile (·==0)).length≤B.length:=(List.dropWhile_sublist _).length_le
   rw[e]
   simp only[List.head?_cons,decide_true,Bool.not_true,beq_eq_false_iff_ne]
   intro he
   have:=congrArg List.length he
   simp at this
   omega
  ·have e:(b::B).dropWhile (·==0)=b::B:=by
    rw[List.dropWhile_cons]
    simp[hb]
   have hcc:UInt8.ofNat (b::B).length=c:=by rw[←hc];exact UInt8.ofNat_toNat
   rw[e,hcc]
   simp[hb]
set_option maxRecDepth 100000 in
set_option maxHeartbeats 8000000 in
theorem rGetNumber_ok (s:Bytes) (hs:s.length < 4611686018427387904):APure Tryz.prog 69 [.str s] (gnA (getNum s)):=by
 intro M
 refine acalls_of tabOK Tryz.func69 rfl (by decide) (by simp[Tryz.f69]) ?_
 cases s with
 |nil=>
  have d1:decide ((([]:Bytes).length:Int)=0)=true:=rfl
  repeat' (first|refine DW_VB tabs rfl d1 ?_|refine DW_A tabs rfl ?_|refine DW_nil ?_|refine W_A rfl ?_|refine W_draw mixed [0,1,2,3,4,5,6] [.P,.P,.P,.P,.P,.P,.P] rfl rfl (by kernel_rfl) ?_)
  exact⟨rfl,_,rfl,rfl,rfl⟩
 |cons c r=>
  have d1:decide (((c::r).length:Int)=0)=false:=by simp;omega
  have hc:=c.toNat_lt
  have b1:=byte_i64 c
  have hl:(c::r).length=r.length+1:=rfl
  cases d2:decide ((4:Int) < (c.toNat:Int))
  ·have d2':=of_decide_eq_false d2
   have e1:IntKind.wrap .i64 (1+(c.toNat:Int))=((1+c.toNat:Nat):Int):=(Go.Ab.wrap_small (by omega) (by omega)).trans (by omega)
   cases d3:decide (((c::r).length:Int) < ((1+c.toNat:Nat):Int))
   ·have d3':=of_decide_eq_false d3
    have hlb:(r.take c.toNat).length=c.toNat:=by rw[List.length_take];omega
    have hnl:=num_lt 4 (r.take c.toNat) (by omega)
    have hpn:=put_num (B:=r.take c.toNat) (c:=c) (by omega) hlb.symm
    have kn:=rNumber_nat (m:=num (r.take c.toNat)) (by omega)
    have s1:(0:Int)≤0∧(0:Int)≤((1+c.toNat:Nat):Int)∧((1+c.toNat:Nat):Int)≤((c::r).length:Int)∧((c::r).take ((1+c.toNat:Nat):Int).toNat).drop (0:Int).toNat=c::r.take c.toNat:=by
     refine⟨by omega,by omega,by omega,?_⟩
     rw[Int.toNat_natCast,Nat.add_comm,List.take_succ_cons]
     rfl
    have s2:(0:Int)≤((1+c.toNat:Nat):Int)∧((1+c.toNat:Nat):Int)≤((c::r).length:Int)∧((c::r).length:Int)≤((c::r).length:Int)∧((c::r).take ((c::r).length:Int).toNat).drop ((1+c.toNat:Nat):Int).toNat=r.drop c.toNat:=by
     refine⟨by omega,by omega,by omega,?_⟩
     rw[Int.toNat_natCast,Int.toNat_natCast,List.take_length,Nat.add_comm,List.drop_succ_cons]
    repeat' (first|refine DW_VB tabs rfl (by first|exact d1|exact d2|exact d3) ?_|refine DW_VI tabs rfl (by first|exact b1|exact e1) ?_|refine DW_A tabs rfl ?_|refine DW_nil ?_|refine W_A rfl ?_|refine DW_by tabOK rfl (⟨Int.le_refl 0,rfl⟩) ?_|refine W_draw mixed [0,1,2,3,4,5,6] [.P,.P,.P,.P,.P,.P,.P] rfl rfl (by kernel_rfl) ?_)
    refine W_count (1+c.toNat) (fun i f N=>1≤i∧N=M∧f=⟨[(0,.str (c::r)),(5,.int .i64 ((1+c.toNat:Nat):Int)),(6,.int .i64 ((num (((c::r).take i).drop 1):Nat):Int)),(7,.int .i64 (i:Int))],[]⟩) (i0:=1) (by omega) ⟨by omega,rfl,rfl⟩ (Joint.le ?_ (Mem.le_refl _)) ?_
    ·repeat (refine AF.le_cons rfl ?_)
     exact AF.le_nil rfl
    ·rintro i f N hi ⟨hei,rfl,rfl⟩
     by_cases h1:i < 1+c.toNat
     ·have d4:decide ((i:Int) < ((1+c.toNat:Nat):Int))=true:=by simp;omega
      have hxi:(c::r)[i]? =some (c::r)[i]:=List.getElem?_eq_getElem (by omega)
      have fi:=wrap_succ (i:=i) (by omega)
      generalize (c::r)[i]=b at hxi
      have ht:=take_drop_succ hei hxi
      have hnm:=num_app (((c::r).take i).drop 1) b
      rw[←ht] at hnm
      have hml:num (((c::r).take i).drop 1) < 256^4:=num_lt 4 _ (by simp;omega)
      generalize num (((c::r).take i).drop 1)=m at hnm hml
      have hb:=b.toNat_lt
      have g1:IntKind.wrap .i64 (256*(m:Int))=((m*256:Nat):Int):=(Go.Ab.wrap_small (by omega) (by omega)).trans (by omega)
      have g2:=byte_i64 b
      have g3:IntKind.wrap .i64 (((m*256:Nat):Int)+(b.toNat:Int))=((m*256+b.toNat:Nat):Int):=(Go.Ab.wrap_small (by omega) (by omega)).trans (by omega)
      repeat' (first|refine DW_VB tabs rfl d4 ?_|refine DW_VI tabs rfl (by first|exact g1|exact g2|exact g3|exact fi) ?_|refine DW_A tabs rfl ?_|refine DW_nil ?_|refine W_A rfl ?_|refine DW_by tabOK rfl (byN hxi) ?_|refine W_draw mixed [0,1,2,3,4,5,6] [.P,.P,.P,.P,.P,.P,.P] rfl rfl (by kernel_rfl) ?_)
      refine⟨h1,_,_,⟨by omega,rfl,rfl⟩,Joint.le ?_ (Mem.le_refl _)⟩
      rw[hnm]
      repeat (refine AF.le_cons rfl ?_)
      exact AF.le_nil rfl
     ·have d4:decide ((i:Int) < ((1+c.toNat:Nat):Int))=false:=by simp;omega
      obtain rfl:i=1+c.toNat:=by omega
      have e2:((c::r).take (1+c.toNat)).drop 1=r.take c.toNat:=by
       rw[Nat.add_comm,List.take_succ_cons]
       rfl
      rw[e2]
      by_cases h0:(r.take c.toNat).head?=some 0
      ·rw[getNum_none (.inr (.inr h0))]
       have d5:(!(putN (num (r.take c.toNat))==c::r.take c.toNat))=true:=by rw[hpn];simp[h0]
       repeat' (first|refine DW_VB tabs rfl (by first|exact d4|exact d5) ?_|refine DW_A tabs rfl ?_|refine DW_nil ?_|refine W_A rfl ?_|refine DW_C rfl kn ?_|refine DW_sub tabOK rfl (s1) ?_|refine W_draw mixed [0,1,2,3,4,5,6] [.P,.P,.P,.P,.P,.P,.P] rfl rfl (by kernel_rfl) ?_)
       exact⟨rfl,_,rfl,rfl,rfl⟩
      ·rw[getNum_some (by rintro (h|h|h);omega;omega;exact h0 h)]
       have d5:(!(putN (num (r.take c.toNat))==c::r.take c.toNat))=false:=by rw[hpn];simp[h0]
       repeat' (first|refine DW_VB tabs rfl (by first|exact d4|exact d5) ?_|refine DW_A tabs rfl ?_|refine DW_nil ?_|refine W_A rfl ?_|refine DW_C rfl kn ?_|refine DW_sub tabOK rfl (s1) ?_|refine DW_sub tabOK rfl (s2) ?_|refine W_draw mixed [0,1,2,3,4,5,6] [.P,.P,.P,.P,.P,.P,.P] rfl rfl (by kernel_rfl) ?_)
       exact⟨rfl,_,rfl,rfl,rfl⟩
   ·have d3':=of_decide_eq_true d3
    rw[getNum_none (.inr (.inl (by omega)))]
    repeat' (first|refine DW_VB tabs rfl (by first|exact d1|exact d2|exact d3) ?_|refine DW_VI tabs rfl (by first|exact b1|exact e1) ?_|refine DW_A tabs rfl ?_|refine DW_nil ?_|refine W_A rfl ?_|refine DW_by tabOK rfl (⟨Int.le_refl 0,rfl⟩) ?_|refine W_draw mixed [0,1,2,3,4,5,6] [.P,.P,.P,.P,.P,.P,.P] rfl rfl (by kernel_rfl) ?_)
    exact⟨rfl,_,rfl,rfl,rfl⟩
  ·have d2':=of_decide_eq_true d2
   rw[getNum_none (.inl (by omega))]
   repeat' (first|refine DW_VB tabs rfl (by first|exact d1|exact d2) ?_|refine DW_VI tabs rfl b1 ?_|refine DW_A tabs rfl ?_|refine DW_nil ?_|refine W_A rfl ?_|refine DW_by tabOK rfl (⟨Int.le_refl 0,rfl⟩) ?_|refine W_draw mixed [0,1,2,3,4,5,6] [.P,.P,.P,.P,.P,.P,.P] rfl rfl (by kernel_rfl) ?_)
   exact⟨rfl,_,rfl,rfl,rfl⟩
def iA (l:List Int) (t:Tag):AV:=.sl 1 (l.map fun n=>AV.int .i64 n) t
set_option maxRecDepth 100000 in
set_option maxHeartbeats 8000000 in
theorem rInts_ok (a b:List Int) (ta tb:Tag) (ha:a.length < 1000000000) (hb:b.length < 1000000000):APure Tryz.prog 101 [iA a ta,iA b tb] (.bool (decide (a=b))):=by
 intro M
 refine acalls_of tabOK Tryz.func101 rfl (by decide) (by simp[Tryz.f101]) ?_
 have la:=len_map (fun n=>AV.int .i64 n) a
 have lb:=len_map (fun n=>AV.int .i64 n) b
 unfold iA
 by_cases hl:a.length=b.length
 ·have d0:(!decide ((a.length:Int)=(b.length:Int)))=false:=by simp;omega
  repeat' (first|refine DW_VB tabs rfl d0 ?_|refine DW_VI tabs rfl (by first|exact la|exact lb) ?_|refine DW_A tabs rfl ?_|refine DW_nil ?_|refine W_A rfl ?_|refine W_draw mixed [0,1,4,5,2,3,6,7,8] [.P,.P,.R,.R,.P,.P,.R,.R,.P] rfl rfl (by kernel_rfl) ?_)
  refine W_count a.length (fun i f N=>N=M∧(a.take i=b.take i)∧f=⟨[(0,.sl 1 (a.map fun n=>AV.int .i64 n) ta),(1,.sl 1 (b.map fun n=>AV.int .i64 n) tb),(5,.int .i64 (i:Int))],[]⟩) (Nat.zero_le _) ⟨rfl,by simp,rfl⟩ (Joint.le ?_ (Mem.le_refl _)) ?_
  ·skip
   repeat (refine AF.le_cons rfl ?_)
   exact AF.le_nil rfl
  rintro i f N hi ⟨rfl,hinv,rfl⟩
  by_cases h1:i < a.length
  ·have d1:decide ((i:Int) < (a.length:Int))=true:=by simp;omega
   have hx:a[i]? =some a[i]:=List.getElem?_eq_getElem h1
   have fi:=wrap_succ (i:=i) (by omega)
   have ht:=take_succ hx
   have hm:=List.getElem_mem h1
   generalize a[i]=x at hx ht hm
   have hy:b[i]? =some b[i]:=List.getElem?_eq_getElem (by omega)
   have ht2:=take_succ hy
   generalize b[i]=y at hy ht2
   cases h2:decide (x=y)
   ·have d2:(!decide (x=y))=true:=by rw[h2];rfl
    have e:decide (a=b)=false:=by
     rw[decide_eq_false_iff_not]
     rintro rfl
     rw[hx] at hy
     cases hy
     simp at h2
    rw[e]
    repeat' (first|refine DW_VB tabs rfl (by first|exact d1|exact d2) ?_|refine DW_VI tabs rfl (by first|exact la|exact lb|exact fi) ?_|refine DW_A tabs rfl ?_|refine DW_nil ?_|refine W_A rfl ?_|refine DW_ix tabOK rfl (ixN hx) ?_|refine DW_ix tabOK rfl (ixN hy) ?_|refine W_draw mixed [0,1,4,5,2,3,6,7,8] [.P,.P,.R,.R,.P,.P,.R,.R,.P] rfl rfl (by kernel_rfl) ?_)
    exact⟨rfl,_,rfl,rfl,rfl⟩
   ·have d2:(!decide (x=y))=false:=by rw[h2];rfl
    have:=of_decide_eq_true h2
    subst this
    repeat' (first|refine DW_VB tabs rfl (by first|exact d1|exact d2) ?_|refine DW_VI tabs rfl (by first|exact la|exact lb|exact fi) ?_|refine DW_A tabs rfl ?_|refine DW_nil ?_|refine W_A rfl ?_|refine DW_ix tabOK rfl (ixN hx) ?_|refine DW_ix tabOK rfl (ixN hy) ?_|refine W_draw mixed [0,1,4,5,2,3,6,7,8] [.P,.P,.R,.R,.P,.P,.R,.R,.P] rfl rfl (by kernel_rfl) ?_)
    refine⟨h1,_,_,⟨rfl,(by rw[ht,ht2,hinv]),rfl⟩,Joint.le ?_ (Mem.le_refl _)⟩
    repeat (refine AF.le_cons rfl ?_)
    exact AF.le_nil rfl
  ·have d1:decide ((i:Int) < (a.length:Int))=false:=by simp;omega
   obtain rfl:i=a.length:=by omega
   have e:a=b:=by
    rw[List.take_length,hl,List.take_length] at hinv
    exact hinv
   have e:decide (a=b)=true:=decide_eq_true e
   rw[e]
   repeat' (first|refine DW_VB tabs rfl d1 ?_|refine DW_VI tabs rfl (by first|exact la|exact lb) ?_|refine DW_A tabs rfl ?_|refine DW_nil ?_|refine W_A rfl ?_|refine W_draw mixed [0,1,4,5,2,3,6,7,8] [.P,.P,.R,.R,.P,.P,.R,.R,.P] rfl rfl (by kernel_rfl) ?_)
   exact⟨rfl,_,rfl,rfl,rfl⟩
 ·have d0:(!decide ((a.length:Int)=(b.length:Int)))=true:=by simp;omega
  have e:decide (a=b)=false:=by
   rw[decide_eq_false_iff_not]
   rintro rfl
   exact hl rfl
  rw[e]
  repeat' (first|refine DW_VB tabs rfl d0 ?_|refine DW_VI tabs rfl (by first|exact la|exact lb) ?_|refine DW_A tabs rfl ?_|refine DW_nil ?_|refine W_A rfl ?_|refine W_draw mixed [0,1,4,5,2,3,6,7,8] [.P,.P,.R,.R,.P,.P,.R,.R,.P] rfl rfl (by kernel_rfl) ?_)
  exact⟨rfl,_,rfl,rfl,rfl⟩
end Go.Proofs.YtbcaejhhgkcgpaaGreatDoor
namespace Go.Proofs.YtbcaejhhgkcgpaaGreatDoor
open Go.Ab
structure Mt where
 size:Int
 mode:Int
 ch:List Int
deriving DecidableEq
def Mt.cells (m:Mt):List AV:=[.int .i64 m.size,.int .i64 m.mode,iA m.ch .none]
def Mt.av (m:Mt):AV:=.agg m.cells
def zeroMt:Mt:=⟨0,0,[]⟩
theorem closed_iA (l:List Int) {t:Tag} (ht:t=.none∨t=.full):Closed (iA l t):=by
 refine closed_sl ht ?_ ?_
 ·intro x hx
  obtain⟨n,_,rfl⟩:=List.mem_map.1 hx
  exact closed_int
 ·intro x hx c hc
  obtain⟨n,_,rfl⟩:=List.mem_map.1 hx
  simp[AV.cells] at hc
  subst hc
  exact closed_int
theorem closed_cells (m:Mt):∀x,x∈m.cells→Closed x:=closed3 closed_int closed_int (closed_iA _ (.inl rfl))
theorem closed_mt (m:Mt):Closed m.av:=closed_agg (closed_cells m)
theorem Sub.aggL {l m:List AV} (h:SubL l m):Sub (.agg l) (.agg m):=by
 intro μ F w v hr
 obtain⟨c,rfl,h1,h2,h3⟩:=hr.agg_inv
 refine .agg m c (h1.trans h.len) (fun i y u hy hu=>?_) h3
 have hi:i < l.length:=by rw[h.len];exact (List.getElem?_eq_some_iff.1 hy).1
 exact h.get i _ y (List.getElem?_eq_getElem hi) hy μ F w u (h2 i _ u (List.getElem?_eq_getElem hi) hu)
def Mt.avT (m:Mt) (t:Tag):AV:=.agg [.int .i64 m.size,.int .i64 m.mode,iA m.ch t]
theorem sub_mt {m:Mt} {t:Tag}:Sub (m.avT t) m.av:=Sub.aggL ⟨Sub.refl,Sub.refl,Sub.untag,trivial⟩
def inR (n k:Int):Bool:=decide (0≤n)&&decide (n≤k)
def isM (m:Mt):Bool:=m.ch.all (fun n=>inR n 4294967295)&&(inR m.size 1000000000&&inR m.mode 4095&&decide (m.ch.length≤16))
set_option maxRecDepth 100000 in
set_option maxHeartbeats 8000000 in
theorem within_ok (n k:Int):APure Tryz.prog 205 [.int .i64 n,.int .i64 k] (.bool (inR n k)):=by
 intro M
 refine acalls_of tabOK Tryz.func205 rfl (by decide) (by simp[Tryz.f205]) ?_
 unfold inR
 cases d1:decide (0≤n)
 ·repeat' (first|refine DW_VB tabs rfl d1 ?_|refine DW_A tabs rfl ?_|refine DW_nil ?_|refine W_A rfl ?_)
  exact⟨rfl,_,rfl,rfl,rfl⟩
 ·cases d2:decide (n≤k)
  ·repeat' (first|refine DW_VB tabs rfl (by first|exact d1|exact d2) ?_|refine DW_A tabs rfl ?_|refine DW_nil ?_|refine W_A rfl ?_)
   exact⟨rfl,_,rfl,rfl,rfl⟩
  ·repeat' (first|refine DW_VB tabs rfl (by first|exact d1|exact d2) ?_|refine DW_A tabs rfl ?_|refine DW_nil ?_|refine W_A rfl ?_)
   exact⟨rfl,_,rfl,rfl,rfl⟩
theorem all_take {α:Type} {p:α→Bool} {l:List α} {i:Nat} {x:α} (hx:l[i]? =some x) (hi:(l.take i).all p=true) (h:p x=true):(l.take (i+1)).all p=true:=by
 rw[take_succ hx,List.all_append,hi]
 simp[h]
theorem all_no {α:Type} {p:α→Bool} {l:List α} {i:Nat} {x:α} (hx:l[i]? =some x) (h:p x=false):l.all p=false:=by
 cases ha:l.all p
 ·rfl
 ·rw[List.all_eq_true] at ha
  rw[ha x (List.mem_of_getElem? hx)] at h
  cases h
set_option maxRecDepth 100000 in
set_option maxHeartbeats 8000000 in
theorem mIs_ok (m:Mt) (hl:m.ch.length < 1000000):APure Tryz.prog 159 [m.av] (.bool (isM m)):=by
 intro M
 refine acalls_of tabOK Tryz.func159 rfl (by decide) (by simp[Tryz.f159]) ?_
 have lc:=len_map (fun n=>AV.int .i64 n) m.ch
 have k1:=within_ok m.size 1000000000
 have k2:=within_ok m.mode 4095
 unfold isM
 repeat' (first|refine DW_VI tabs rfl lc ?_|refine DW_A tabs rfl ?_|refine DW_nil ?_|refine W_A rfl ?_)
 refine W_count m.ch.length (fun i f N=>N=M∧((m.ch.take i).all (fun n=>inR n 4294967295)=true)∧f=⟨[(1,.ref m.cells),(6,iA m.ch .none),(7,.int .i64 (m.ch.length:Int)),(8,.int .i64 (i:Int))],[]⟩) (Nat.zero_le _) ⟨rfl,by simp,rfl⟩ (Joint.le ?_ (Mem.le_refl _)) ?_
 ·skip
  repeat (refine AF.le_cons rfl ?_)
  exact AF.le_nil rfl
 rintro i f N hi ⟨rfl,hinv,rfl⟩
 by_cases h1:i < m.ch.length
 ·have d1:decide ((i:Int) < (m.ch.length:Int))=true:=by simp;omega
  have hx:m.ch[i]? =some m.ch[i]:=List.getElem?_eq_getElem h1
  have fi:=wrap_succ (i:=i) (by omega)
  have ht:=take_succ hx
  have hm:=List.getElem_mem h1
  generalize m.ch[i]=x at hx ht hm
  have kx:=within_ok x 4294967295
  cases h:inR x 4294967295
  ·rw[h] at kx
   rw[all_no hx h]
   repeat' (first|refine DW_VB tabs rfl d1 ?_|refine DW_VI tabs rfl (by first|exact lc|exact fi) ?_|refine DW_A tabs rfl ?_|refine DW_nil ?_|refine W_A rfl ?_|refine DW_C rfl kx ?_|refine DW_ix tabOK rfl (ixN hx) ?_)
   exact⟨rfl,_,rfl,rfl,rfl⟩
  ·rw[h] at kx
   repeat' (first|refine DW_VB tabs rfl d1 ?_|refine DW_VI tabs rfl (by first|exact lc|exact fi) ?_|refine DW_A tabs rfl ?_|refine DW_nil ?_|refine W_A rfl ?_|refine DW_C rfl kx ?_|refine DW_ix tabOK rfl (ixN hx) ?_)
   refine⟨h1,_,_,⟨rfl,(all_take hx hinv h),rfl⟩,Joint.le ?_ (Mem.le_refl _)⟩
   repeat (refine AF.le_cons rfl ?_)
   exact AF.le_nil rfl
 ·have d1:decide ((i:Int) < (m.ch.length:Int))=false:=by simp;omega
  obtain rfl:i=m.ch.length:=by omega
  rw[List.take_length] at hinv
  rw[hinv]
  cases h1:inR m.size 1000000000
  ·rw[h1] at k1
   repeat' (first|refine DW_VB tabs rfl d1 ?_|refine DW_VI tabs rfl lc ?_|refine DW_A tabs rfl ?_|refine DW_nil ?_|refine W_A rfl ?_|refine DW_C rfl k1 ?_)
   exact⟨rfl,_,rfl,rfl,rfl⟩
  ·rw[h1] at k1
   cases h2:inR m.mode 4095
   ·rw[h2] at k2
    repeat' (first|refine DW_VB tabs rfl d1 ?_|refine DW_VI tabs rfl lc ?_|refine DW_A tabs rfl ?_|refine DW_nil ?_|refine W_A rfl ?_|refine DW_C rfl k1 ?_|refine DW_C rfl k2 ?_)
    exact⟨rfl,_,rfl,rfl,rfl⟩
   ·rw[h2] at k2
    by_cases h3:m.ch.length≤16
    ·have d3:decide ((m.ch.length:Int)≤16)=true:=by simp;omega
     rw[decide_eq_true h3]
     repeat' (first|refine DW_VB tabs rfl (by first|exact d1|exact d3) ?_|refine DW_VI tabs rfl lc ?_|refine DW_A tabs rfl ?_|refine DW_nil ?_|refine W_A rfl ?_|refine DW_C rfl k1 ?_|refine DW_C rfl k2 ?_)
     exact⟨rfl,_,rfl,rfl,rfl⟩
    ·have d3:decide ((m.ch.length:Int)≤16)=false:=by simp;omega
     rw[decide_eq_false h3]
     repeat' (first|refine DW_VB tabs rfl (by first|exact d1|exact d3) ?_|refine DW_VI tabs rfl lc ?_|refine DW_A tabs rfl ?_|refine DW_nil ?_|refine W_A rfl ?_|refine DW_C rfl k1 ?_|refine DW_C rfl k2 ?_)
     exact⟨rfl,_,rfl,rfl,rfl⟩
end Go.Proofs.YtbcaejhhgkcgpaaGreatDoor
namespace Go.Proofs.YtbcaejhhgkcgpaaGreatDoor
open Go.Ab
theorem inR_eq (n k:Int):inR n k=(!decide (n < 0)&&!decide (k < n)):=by
 unfold inR
 rw[Bool.eq_iff_iff]
 simp
set_option maxRecDepth 100000 in
set_option maxHeartbeats 8000000 in
theorem rmIs_ok (m:Mt) (hl:m.ch.length < 1000000):APure Tryz.prog 109 [m.av] (.bool (isM m)):=by
 intro M
 refine acalls_of tabOK Tryz.func109 rfl (by decide) (by simp[Tryz.f109]) ?_
 have lc:=len_map (fun n=>AV.int .i64 n) m.ch
 have no:(inR m.size 1000000000&&inR m.mode 4095&&decide (m.ch.length≤16))=false→isM m=false:=by
  intro h
  unfold isM
  rw[h,Bool.and_false]
 rw[inR_eq,inR_eq] at no
 cases d1:decide (m.size < 0)
 ·cases d2:decide (1000000000 < m.size)
  ·cases d3:decide (m.mode < 0)
   ·cases d4:decide (4095 < m.mode)
    ·cases d5:decide ((16:Int) < (m.ch.length:Int))
     ·have d5':=of_decide_eq_false d5
      have yes:isM m=m.ch.all (fun n=>inR n 4294967295):=by
       unfold isM
       rw[inR_eq,inR_eq,d1,d2,d3,d4,decide_eq_true (by omega:m.ch.length≤16)]
       simp
      rw[yes]
      repeat' (first|refine DW_VB tabs rfl (by first|exact d1|exact d2|exact d3|exact d4|exact d5) ?_|refine DW_VI tabs rfl lc ?_|refine DW_A tabs rfl ?_|refine DW_nil ?_|refine W_A rfl ?_)
      refine W_count m.ch.length (fun i f N=>N=M∧((m.ch.take i).all (fun n=>inR n 4294967295)=true)∧f=⟨[(1,.ref m.cells),(3,.int .i64 (i:Int))],[]⟩) (Nat.zero_le _) ⟨rfl,by simp,rfl⟩ (Joint.le ?_ (Mem.le_refl _)) ?_
      ·skip
       repeat (refine AF.le_cons rfl ?_)
       exact AF.le_nil rfl
      rintro i f N hi ⟨rfl,hinv,rfl⟩
      by_cases h1:i < m.ch.length
      ·have d1:decide ((i:Int) < (m.ch.length:Int))=true:=by simp;omega
       have hx:m.ch[i]? =some m.ch[i]:=List.getElem?_eq_getElem h1
       have fi:=wrap_succ (i:=i) (by omega)
       have ht:=take_succ hx
       have hm:=List.getElem_mem h1
       generalize m.ch[i]=x at hx ht hm
       cases x1:decide (x < 0)
       ·cases x2:decide (4294967295 < x)
        ·repeat' (first|refine DW_VB tabs rfl (by first|exact d1|exact x1|exact x2) ?_|refine DW_VI tabs rfl (by first|exact lc|exact fi) ?_|refine DW_A tabs rfl ?_|refine DW_nil ?_|refine W_A rfl ?_|refine DW_ix tabOK rfl (ixN hx) ?_)
         refine⟨h1,_,_,⟨rfl,(all_take hx hinv (by rw[inR_eq,x1,x2];rfl)),rfl⟩,Joint.le ?_ (Mem.le_refl _)⟩
         repeat (refine AF.le_cons rfl ?_)
         exact AF.le_nil rfl
        ·rw[all_no hx (by rw[inR_eq,x2];simp)]
         repeat' (first|refine DW_VB tabs rfl (by first|exact d1|exact x1|exact x2) ?_|refine DW_VI tabs rfl (by first|exact lc|exact fi) ?_|refine DW_A tabs rfl ?_|refine DW_nil ?_|refine W_A rfl ?_|refine DW_ix tabOK rfl (ixN hx) ?_)
         exact⟨rfl,_,rfl,rfl,rfl⟩
       ·rw[all_no hx (by rw[inR_eq,x1];simp)]
        repeat' (first|refine DW_VB tabs rfl (by first|exact d1|exact x1) ?_|refine DW_VI tabs rfl (by first|exact lc|exact fi) ?_|refine DW_A tabs rfl ?_|refine DW_nil ?_|refine W_A rfl ?_|refine DW_ix tabOK rfl (ixN hx) ?_)
        exact⟨rfl,_,rfl,rfl,rfl⟩
      ·have d1:decide ((i:Int) < (m.ch.length:Int))=false:=by simp;omega
       obtain rfl:i=m.ch.length:=by omega
       rw[List.take_length] at hinv
       rw[hinv]
       repeat' (first|refine DW_VB tabs rfl d1 ?_|refine DW_VI tabs rfl lc ?_|refine DW_A tabs rfl ?_|refine DW_nil ?_|refine W_A rfl ?_)
       exact⟨rfl,_,rfl,rfl,rfl⟩
     ·have d5':=of_decide_eq_true d5
      rw[no (by rw[decide_eq_false (by omega:¬m.ch.length≤16)];simp)]
      repeat' (first|refine DW_VB tabs rfl (by first|exact d1|exact d2|exact d3|exact d4|exact d5) ?_|refine DW_VI tabs rfl lc ?_|refine DW_A tabs rfl ?_|refine DW_nil ?_|refine W_A rfl ?_)
      exact⟨rfl,_,rfl,rfl,rfl⟩
    ·rw[no (by rw[d4];simp)]
     repeat' (first|refine DW_VB tabs rfl (by first|exact d1|exact d2|exact d3|exact d4) ?_|refine DW_VI tabs rfl lc ?_|refine DW_A tabs rfl ?_|refine DW_nil ?_|refine W_A rfl ?_)
     exact⟨rfl,_,rfl,rfl,rfl⟩
   ·rw[no (by rw[d3];simp)]
    repeat' (first|refine DW_VB tabs rfl (by first|exact d1|exact d2|exact d3) ?_|refine DW_VI tabs rfl lc ?_|refine DW_A tabs rfl ?_|refine DW_nil ?_|refine W_A rfl ?_)
    exact⟨rfl,_,rfl,rfl,rfl⟩
  ·rw[no (by rw[d2];simp)]
   repeat' (first|refine DW_VB tabs rfl (by first|exact d1|exact d2) ?_|refine DW_VI tabs rfl lc ?_|refine DW_A tabs rfl ?_|refine DW_nil ?_|refine W_A rfl ?_)
   exact⟨rfl,_,rfl,rfl,rfl⟩
 ·rw[no (by rw[d1];simp)]
  repeat' (first|refine DW_VB tabs rfl d1 ?_|refine DW_VI tabs rfl lc ?_|refine DW_A tabs rfl ?_|refine DW_nil ?_|refine W_A rfl ?_)
  exact⟨rfl,_,rfl,rfl,rfl⟩
theorem mt_eq {m k:Mt}:m=k↔m.size=k.size∧m.mode=k.mode∧m.ch=k.ch:=by
 obtain⟨a,b,c⟩:=m
 obtain⟨d,e,f⟩:=k
 simp
set_option maxRecDepth 100000 in
set_option maxHeartbeats 8000000 in
theorem rmSame_ok (m k:Mt) (hm:m.ch.length < 1000000) (hk:k.ch.length < 1000000):APure Tryz.prog 47 [m.av,k.av] (.bool (decide (m=k))):=by
 intro M
 refine acalls_of tabOK Tryz.func47 rfl (by decide) (by simp[Tryz.f47]) ?_
 have ki:=rInts_ok m.ch k.ch .none .none (by omega) (by omega)
 cases d1:decide (m.size=k.size)
 ·rw[decide_eq_false (p:=m=k) (by rintro rfl;simp at d1)]
  repeat' (first|refine DW_VB tabs rfl d1 ?_|refine DW_A tabs rfl ?_|refine DW_nil ?_|refine W_A rfl ?_)
  exact⟨rfl,_,rfl,rfl,rfl⟩
 ·cases d2:decide (m.mode=k.mode)
  ·rw[decide_eq_false (p:=m=k) (by rintro rfl;simp at d2)]
   repeat' (first|refine DW_VB tabs rfl (by first|exact d1|exact d2) ?_|refine DW_A tabs rfl ?_|refine DW_nil ?_|refine W_A rfl ?_)
   exact⟨rfl,_,rfl,rfl,rfl⟩
  ·have e:decide (m=k)=decide (m.ch=k.ch):=by
    rw[decide_eq_decide,mt_eq]
    simp at d1 d2
    simp[d1,d2]
   rw[e]
   repeat' (first|refine DW_VB tabs rfl (by first|exact d1|exact d2) ?_|refine DW_A tabs rfl ?_|refine DW_nil ?_|refine W_A rfl ?_|refine DW_C rfl ki ?_)
   exact⟨rfl,_,rfl,rfl,rfl⟩
theorem getNum_lt {s r:Bytes} {n:Nat} (h:getNum s=some (n,r)):r.length < s.length∧n < 4294967296:=by
 cases s with
 |nil=>cases h
 |cons c q=>
  by_cases hc:4 < c.toNat∨q.length < c.toNat∨(q.take c.toNat).head?=some 0
  ·rw[getNum_none hc] at h
   cases h
  ·rw[getNum_some hc] at h
   cases h
   refine⟨by rw[List.length_drop,List.length_cons];omega,num_lt 4 _ ?_⟩
   rw[List.length_take]
   omega
def nums (s:Bytes):Option (List Nat):=
 match h:getNum s with
 |none=>if s=[] then some [] else none
 |some (n,r)=>(nums r).map (n::·)
termination_by s.length
decreasing_by exact (getNum_lt h).1
theorem nums_nil:nums []=some []:=by
 rw[nums]
 rfl
theorem nums_some {s r:Bytes} {n:Nat} (h:getNum s=some (n,r)):nums s=(nums r).map (n::·):=by
 rw[nums]
 split
 ·rename_i e
  rw[h] at e
  cases e
 ·rename_i e
  rw[h] at e
  cases e
  rfl
theorem nums_none {s:Bytes} (h:getNum s=none) (hs:s≠[]):nums s=none:=by
 rw[nums]
 split
 ·rw[if_neg hs]
 ·rename_i e
  rw[h] at e
  cases e
def nI (l:List Nat):List Int:=l.map fun n:Nat=>(n:Int)
@[simp] theorem nI_len (l:List Nat):(nI l).length=l.length:=by simp[nI]
def numsA:Option (List Nat)→AV
 |some l=>.tup [iA (nI l) .none,.bool true]
 |none=>.tup [iA [] .none,.bool false]
theorem closed_nums (x:Option (List Nat)):Closed (numsA x):=by
 cases x with
 |none=>exact closed_tup (closed2 (closed_iA _ (.inl rfl)) closed_bool)
 |some l=>exact closed_tup (closed2 (closed_iA _ (.inl rfl)) closed_bool)
set_option maxRecDepth 100000 in
set_option maxHeartbeats 8000000 in
theorem rNumbers_ok (s:Bytes) (hs:s.length < 1000000):APure Tryz.prog 160 [.str s] (numsA (nums s)):=by
 refine pure_sub (closed1 closed_str) (closed_nums _) ?_
 refine acalls_of tabOK Tryz.func160 rfl (by decide) (by simp[Tryz.f160]) ?_
 repeat' (first|refine DW_A tabs rfl ?_|refine DW_nil ?_|refine W_A rfl ?_|refine DW_row tabOK rfl ?_|refine DW_app tabOK rfl rfl (by simp;omega) (by simp;omega) ?_|refine DW_app0 tabOK rfl (by simp;omega) (by simp;omega) ?_)
 refine W_loop (fun c f N=>∃(q:Bytes) (out:List Nat) (g:Nat),c=q.length∧q.length+out.length≤s.length∧nums s=(nums q).map (out++·)∧N=tokM g∧f=⟨[(0,.str q),(4,iA (nI out) (.tok 0 g))],[]⟩) (k:=s.length) ⟨s,[],0,rfl,by simp,by cases nums s<;>rfl,rfl,rfl⟩ ((Joint.tok 4 rfl (sz':=1) (.inr rfl)).trans (Joint.le ?_ (tokM_of rfl rfl))) ?_
 ·repeat (refine AF.le_cons rfl ?_)
  exact AF.le_nil rfl
 rintro c f N ⟨q,out,g,rfl,hql,hinv,rfl,rfl⟩
 have kq:=rGetNumber_ok q (by omega)
 by_cases hq:q=[]
 ·subst hq
  have d1:decide ((0:Int) < (([]:Bytes).length:Int))=false:=rfl
  rw[nums_nil] at hinv
  simp at hinv
  rw[hinv]
  repeat' (first|refine DW_VB tabs rfl d1 ?_|refine DW_A tabs rfl ?_|refine DW_nil ?_|refine W_A rfl ?_|refine DW_row tabOK rfl ?_|refine DW_app tabOK rfl rfl (by simp;omega) (by simp;omega) ?_|refine DW_app0 tabOK rfl (by simp;omega) (by simp;omega) ?_)
  exact⟨rfl,_,rfl,_,rfl,SubC.tup2 (SubC.untag (closed_iA _ (.inl rfl))) (SubC.of_closed closed_bool)⟩
 ·have hpos:0 < q.length:=List.length_pos_iff.2 hq
  have d1:decide ((0:Int) < (q.length:Int))=true:=by simp;omega
  cases hg:getNum q with
  |none=>
   rw[hg] at kq
   rw[nums_none hg hq] at hinv
   rw[show nums s=none from hinv]
   repeat' (first|refine DW_VB tabs rfl d1 ?_|refine DW_A tabs rfl ?_|refine DW_nil ?_|refine W_A rfl ?_|refine DW_C rfl kq ?_|refine DW_row tabOK rfl ?_|refine DW_app tabOK rfl rfl (by simp;omega) (by simp;omega) ?_|refine DW_app0 tabOK rfl (by simp;omega) (by simp;omega) ?_)
   exact⟨rfl,_,rfl,_,rfl,SubC.tup2 SubC.nil (SubC.of_closed closed_bool)⟩
  |some p=>
   obtain⟨n,r⟩:=p
   rw[hg] at kq
   have hlt:=(getNum_lt hg).1
   rw[nums_some hg,Option.map_map] at hinv
   have ha:out.length < 1000000:=by omega
   unfold iA
   repeat' (first|refine DW_VB tabs rfl d1 ?_|refine DW_A tabs rfl ?_|refine DW_nil ?_|refine W_A rfl ?_|refine DW_C rfl kq ?_|refine DW_row tabOK rfl ?_|refine DW_app tabOK rfl rfl (by simp;omega) (by simp;omega) ?_|refine DW_app0 tabOK rfl (by simp;omega) (by simp;omega) ?_)
   refine⟨r.length,_,_,hlt,⟨r,out++[n],g+1,rfl,by simp;omega,?_,rfl,rfl⟩,Joint.le ?_ (tokM_of rfl rfl)⟩
   ·rw[hinv]
    congr 1
    funext x
    simp
   ·have e:AV.sl 1 ((nI (out++[n])).map fun n=>AV.int .i64 n) (.tok 0 (g+1))=.sl 1 (((nI out).map fun n=>AV.int .i64 n)++[.int .i64 (n:Int)]) (.tok 0 (g+1)):=by simp[nI]
    rw[e]
    repeat (refine AF.le_cons rfl ?_)
    exact AF.le_nil rfl
theorem nums_len:∀(k:Nat) {s:Bytes} {L:List Nat},s.length≤k→nums s=some L→L.length≤s.length
 |k,s,L,hk,h=>by
  cases hg:getNum s with
  |none=>
   by_cases hs:s=[]
   ·subst hs
    rw[nums_nil] at h
    cases h
    simp
   ·rw[nums_none hg hs] at h
    cases h
  |some p=>
   obtain⟨n,r⟩:=p
   have hlt:=(getNum_lt hg).1
   rw[nums_some hg] at h
   cases k with
   |zero=>omega
   |succ k=>
    cases hr:nums r with
    |none=>rw[hr] at h;cases h
    |some q=>
     rw[hr] at h
     cases h
     have:=nums_len k (by omega) hr
     simp
     omega
def mtOf (a b c:Nat) (l:List Nat):Mt×Int:=if c=l.length∧isM ⟨a,b,nI l⟩=true then (⟨a,b,nI l⟩,0) else (zeroMt,30)
def getMo:Option (List Nat)→Mt×Int
 |some (a::b::c::l)=>mtOf a b c l
 |_=>(zeroMt,30)
theorem getMo_yes {a b c:Nat} {l:List Nat} (hc:c=l.length) (hm:isM ⟨a,b,nI l⟩=true):getMo (some (a::b::c::l))=(⟨a,b,nI l⟩,0):=if_pos ⟨hc,hm⟩
theorem getMo_no {a b c:Nat} {l:List Nat} (h:c=l.length→isM ⟨a,b,nI l⟩=false):getMo (some (a::b::c::l))=(zeroMt,30):=if_neg (by rintro⟨hc,hm⟩;rw[h hc] at hm;cases hm)
def getM (s:Bytes):Mt×Int:=getMo (nums s)
def gmA (x:Mt×Int):AV:=.tup [x.1.av,.int .i64 x.2]
theorem closed_gm (x:Mt×Int):Closed (gmA x):=closed_tup (closed2 (closed_mt _) closed_int)
def SubCL (k:Nat):List AV→List AV→Prop
 |[],[]=>True
 |x::l,y::m=>SubC k x y∧SubCL k l m
 |_,_=>False
theorem SubCL.len {k:Nat}:∀{l m:List AV},SubCL k l m→l.length=m.length
 |[],[],_=>rfl
 |_::_,_::_,h=>congrArg (·+1) (SubCL.len h.2)
theorem SubCL.get {k:Nat}:∀{l m:List AV},SubCL k l m→∀(i:Nat) (x y:AV),l[i]? =some x→m[i]? =some y→SubC k x y
 |[],[],_,i,_,_,hx,_=>by simp at hx
 |a::l,b::m,h,0,x,y,hx,hy=>by cases hx;cases hy;exact h.1
 |a::l,b::m,h,i+1,x,y,hx,hy=>SubCL.get h.2 i x y hx hy
theorem SubC.aggL {k:Nat} {l m:List AV} (h:SubCL k l m):SubC k (.agg l) (.agg m):=by
 intro μ F w v hr
 obtain⟨c,rfl,h1,h2,h3⟩:=hr.agg_inv
 refine .agg m c (h1.trans h.len) (fun i y u hy hu=>?_) h3
 have hi:i < l.length:=by rw[h.len];exact (List.getElem?_eq_some_iff.1 hy).1
 exact h.get i _ y (List.getElem?_eq_getElem hi) hy μ F w u (h2 i _ u (List.getElem?_eq_getElem hi) hu)
theorem sub_zero {k:Nat} {sz:Nat} {t:Tag}:SubC k (.agg [.int .i64 0,.int .i64 0,.sl sz [] t]) zeroMt.av:=
 SubC.aggL ⟨SubC.of_closed closed_int,SubC.of_closed closed_int,SubC.nil,trivial⟩
set_option maxRecDepth 100000 in
set_option maxHeartbeats 8000000 in
theorem rGet_ok (s:Bytes) (hs:s.length < 1000000):APure Tryz.prog 100 [.str s] (gmA (getM s)):=by
 refine pure_sub (closed1 closed_str) (closed_gm _) ?_
 refine acalls_of tabOK Tryz.func100 rfl (by decide) (by simp[Tryz.f100]) ?_
 have kn:=rNumbers_ok s hs
 unfold getM
 cases hn:nums s with
 |none=>
  rw[hn] at kn
  repeat' (first|refine DW_A tabs rfl ?_|refine DW_nil ?_|refine W_A rfl ?_|refine DW_C rfl kn ?_|refine DW_app tabOK rfl rfl (by simp;omega) (by simp;omega) ?_|refine DW_app0 tabOK rfl (by simp;omega) (by simp;omega) ?_|refine W_draw mixed [0,1,2,3,4,5,6,7,8] [.P,.P,.P,.P,.P,.P,.P,.E,.E] rfl rfl (by kernel_rfl) ?_|refine W_draw mixed [2,3,0,1,4,5,6] [.R,.R,.P,.P,.E,.R,.E] rfl rfl (by kernel_rfl) ?_)
  exact⟨rfl,_,rfl,_,rfl,SubC.tup2 sub_zero (SubC.of_closed closed_int)⟩
 |some L=>
  rw[hn] at kn
  match L,hn,kn with
  |[],hn,kn=>
   repeat' (first|refine DW_A tabs rfl ?_|refine DW_nil ?_|refine W_A rfl ?_|refine DW_C rfl kn ?_|refine DW_app tabOK rfl rfl (by simp;omega) (by simp;omega) ?_|refine DW_app0 tabOK rfl (by simp;omega) (by simp;omega) ?_|refine W_draw mixed [0,1,2,3,4,5,6,7,8] [.P,.P,.P,.P,.P,.P,.P,.E,.E] rfl rfl (by kernel_rfl) ?_|refine W_draw mixed [2,3,0,1,4,5,6] [.R,.R,.P,.P,.E,.R,.E] rfl rfl (by kernel_rfl) ?_)
   exact⟨rfl,_,rfl,_,rfl,SubC.tup2 sub_zero (SubC.of_closed closed_int)⟩
  |[a],hn,kn=>
   repeat' (first|refine DW_A tabs rfl ?_|refine DW_nil ?_|refine W_A rfl ?_|refine DW_C rfl kn ?_|refine DW_app tabOK rfl rfl (by simp;omega) (by simp;omega) ?_|refine DW_app0 tabOK rfl (by simp;omega) (by simp;omega) ?_|refine W_draw mixed [0,1,2,3,4,5,6,7,8] [.P,.P,.P,.P,.P,.P,.P,.E,.E] rfl rfl (by kernel_rfl) ?_|refine W_draw mixed [2,3,0,1,4,5,6] [.R,.R,.P,.P,.E,.R,.E] rfl rfl (by kernel_rfl) ?_)
   exact⟨rfl,_,rfl,_,rfl,SubC.tup2 sub_zero (SubC.of_closed closed_int)⟩
  |[a,b],hn,kn=>
   repeat' (first|refine DW_A tabs rfl ?_|refine DW_nil ?_|refine W_A rfl ?_|refine DW_C rfl kn ?_|refine DW_app tabOK rfl rfl (by simp;omega) (by simp;omega) ?_|refine DW_app0 tabOK rfl (by simp;omega) (by simp;omega) ?_|refine W_draw mixed [0,1,2,3,4,5,6,7,8] [.P,.P,.P,.P,.P,.P,.P,.E,.E] rfl rfl (by kernel_rfl) ?_|refine W_draw mixed [2,3,0,1,4,5,6] [.R,.R,.P,.P,.E,.R,.E] rfl rfl (by kernel_rfl) ?_)
   exact⟨rfl,_,rfl,_,rfl,SubC.tup2 sub_zero (SubC.of_closed closed_int)⟩
  |a::b::c::l,hn,kn=>
   have lL:(((nI (a::b::c::l)).map fun n=>AV.int .i64 n).length:Int)=((l.length+3:Nat):Int):=by simp;omega
   have hlen:l.length < 1000000:=(by have:=nums_len _ (Nat.le_refl _) hn;simp at this;omega)
   have d1:decide (((l.length+3:Nat):Int) < 3)=false:=by simp;omega
   have e1:IntKind.wrap .i64 (((l.length+3:Nat):Int) - 3)=(l.length:Int):=(Go.Ab.wrap_small (by omega) (by omega)).trans (by omega)
   have i0:(nI (a::b::c::l))[0]? =some (a:Int):=rfl
   have i1:(nI (a::b::c::l))[1]? =some (b:Int):=rfl
   have i2:(nI (a::b::c::l))[2]? =some (c:Int):=rfl
   have s3:(0:Int)≤3∧(3:Int)≤(((nI (a::b::c::l)).map fun n=>AV.int .i64 n).length:Int)∧(((nI (a::b::c::l)).map fun n=>AV.int .i64 n).length:Int)≤(((nI (a::b::c::l)).map fun n=>AV.int .i64 n).length:Int)∧(((nI (a::b::c::l)).map fun n=>AV.int .i64 n).take (((nI (a::b::c::l)).map fun n=>AV.int .i64 n).length:Int).toNat).drop (3:Int).toNat=(nI l).map fun n=>AV.int .i64 n:=by
    refine⟨by omega,by rw[lL];omega,Int.le_refl _,?_⟩
    rw[Int.toNat_natCast,List.take_length]
    rfl
   by_cases hc:c=l.length
   ·have d2:(!decide ((c:Int)=(l.length:Int)))=false:=by simp[hc]
    have km:=(rmIs_ok ⟨a,b,nI l⟩ (by simpa using hlen)).sub (args:=[Mt.avT ⟨a,b,nI l⟩ (.tok 2 0)]) ⟨sub_mt,trivial⟩
    cases hm:isM ⟨a,b,nI l⟩
    ·rw[hm] at km
     rw[getMo_no (fun _=>hm)]
     repeat' (first|refine DW_VB tabs rfl (by first|exact d1|exact d2) ?_|refine DW_VI tabs rfl (by first|exact lL|exact e1) ?_|refine DW_A tabs rfl ?_|refine DW_nil ?_|refine W_A rfl ?_|refine DW_C rfl kn ?_|refine DW_C rfl km ?_|refine DW_ix tabOK rfl (ixZ rfl i0) ?_|refine DW_ix tabOK rfl (ixZ rfl i1) ?_|refine DW_ix tabOK rfl (ixZ rfl i2) ?_|refine DW_slc tabOK rfl (s3) ?_|refine DW_app tabOK rfl rfl (by simp;omega) (by simp;omega) ?_|refine DW_app0 tabOK rfl (by simp;omega) (by simp;omega) ?_|refine W_draw mixed [0,1,2,3,4,5,6,7,8] [.P,.P,.P,.P,.P,.P,.P,.E,.E] rfl rfl (by kernel_rfl) ?_|refine W_draw mixed [2,3,0,1,4,5,6] [.R,.R,.P,.P,.E,.R,.E] rfl rfl (by kernel_rfl) ?_)
     exact⟨rfl,_,rfl,_,rfl,SubC.tup2 sub_zero (SubC.of_closed closed_int)⟩
    ·rw[hm] at km
     rw[getMo_yes hc hm]
     repeat' (first|refine DW_VB tabs rfl (by first|exact d1|exact d2) ?_|refine DW_VI tabs rfl (by first|exact lL|exact e1) ?_|refine DW_A tabs rfl ?_|refine DW_nil ?_|refine W_A rfl ?_|refine DW_C rfl kn ?_|refine DW_C rfl km ?_|refine DW_ix tabOK rfl (ixZ rfl i0) ?_|refine DW_ix tabOK rfl (ixZ rfl i1) ?_|refine DW_ix tabOK rfl (ixZ rfl i2) ?_|refine DW_slc tabOK rfl (s3) ?_|refine DW_app tabOK rfl rfl (by simp;omega) (by simp;omega) ?_|refine DW_app0 tabOK rfl (by simp;omega) (by simp;omega) ?_|refine W_draw mixed [0,1,2,3,4,5,6,7,8] [.P,.P,.P,.P,.P,.P,.P,.E,.E] rfl rfl (by kernel_rfl) ?_|refine W_draw mixed [2,3,0,1,4,5,6] [.R,.R,.P,.P,.E,.R,.E] rfl rfl (by kernel_rfl) ?_)
     exact⟨rfl,_,rfl,_,rfl,SubC.tup2 (SubC.pre (sub_mt (m:=⟨a,b,nI l⟩) (t:=.tok 2 0)) (SubC.of_closed (closed_mt _))) (SubC.of_closed closed_int)⟩
   ·have d2:(!decide ((c:Int)=(l.length:Int)))=true:=by simp;omega
    rw[getMo_no (fun h=>absurd h hc)]
    repeat' (first|refine DW_VB tabs rfl (by first|exact d1|exact d2) ?_|refine DW_VI tabs rfl (by first|exact lL|exact e1) ?_|refine DW_A tabs rfl ?_|refine DW_nil ?_|refine W_A rfl ?_|refine DW_C rfl kn ?_|refine DW_ix tabOK rfl (ixZ rfl i0) ?_|refine DW_ix tabOK rfl (ixZ rfl i1) ?_|refine DW_ix tabOK rfl (ixZ rfl i2) ?_|refine DW_slc tabOK rfl (s3) ?_|refine DW_app tabOK rfl rfl (by simp;omega) (by simp;omega) ?_|refine DW_app0 tabOK rfl (by simp;omega) (by simp;omega) ?_|refine W_draw mixed [0,1,2,3,4,5,6,7,8] [.P,.P,.P,.P,.P,.P,.P,.E,.E] rfl rfl (by kernel_rfl) ?_|refine W_draw mixed [2,3,0,1,4,5,6] [.R,.R,.P,.P,.E,.R,.E] rfl rfl (by kernel_rfl) ?_)
    exact⟨rfl,_,rfl,_,rfl,SubC.tup2 sub_zero (SubC.of_closed closed_int)⟩
def readM (v:Bytes):Mt×Bool×Int:=
 match v with
 |[]=>(zeroMt,false,30)
 |c::r=>if c=0∧r=[] then (zeroMt,true,0) else if c=1 then ((getM r).1,false,(getM r).2) else (zeroMt,false,30)
def rmA (x:Mt×Bool×Int):AV:=.tup [x.1.av,.bool x.2.1,.int .i64 x.2.2]
theorem closed_rm (x:Mt×Bool×Int):Closed (rmA x):=closed_tup (closed3 (closed_mt _) closed_bool closed_int)
set_option maxRecDepth 100000 in
set_option maxHeartbeats 8000000 in
theorem rRead_ok (v:Bytes) (hv:v.length < 1000000):APure Tryz.prog 46 [.str v] (rmA (readM v)):=by
 refine pure_sub (closed1 closed_str) (closed_rm _) ?_
 refine acalls_of tabOK Tryz.func46 rfl (by decide) (by simp[Tryz.f46]) ?_
 cases v with
 |nil=>
  have d1:(([]:Bytes)==[0])=false:=rfl
  repeat' (first|refine DW_VB tabs rfl d1 ?_|refine DW_A tabs rfl ?_|refine DW_nil ?_|refine W_A rfl ?_)
  exact⟨rfl,_,rfl,_,rfl,SubC.tup3 sub_zero (SubC.of_closed closed_bool) (SubC.of_closed closed_int)⟩
 |cons c r=>
  have d2:decide ((((c::r):Bytes).length:Int)=0)=false:=by simp;omega
  by_cases h0:c=0∧r=[]
  ·obtain⟨rfl,rfl⟩:=h0
   have d1:(([0]:Bytes)==[0])=true:=rfl
   repeat' (first|refine DW_VB tabs rfl d1 ?_|refine DW_A tabs rfl ?_|refine DW_nil ?_|refine W_A rfl ?_)
   exact⟨rfl,_,rfl,_,rfl,SubC.tup3 sub_zero (SubC.of_closed closed_bool) (SubC.of_closed closed_int)⟩
  ·have d1:((c::r:Bytes)==[0])=false:=by
    rw[beq_eq_false_iff_ne]
    intro h
    cases h
    exact h0 ⟨rfl,rfl⟩
   by_cases h1:c=1
   ·subst h1
    have d3:(!decide (((1:UInt8).toNat:Int)=1))=false:=rfl
    have e:readM (1::r)=((getM r).1,false,(getM r).2):=by
     show (if (1:UInt8)=0∧r=[] then (zeroMt,true,(0:Int)) else if (1:UInt8)=1 then ((getM r).1,false,(getM r).2) else (zeroMt,false,30))=_
     rw[if_neg h0,if_pos rfl]
    have kr:=rGet_ok r (by simp at hv;omega)
    have s1:(0:Int)≤1∧(1:Int)≤((1::r:Bytes).length:Int)∧((1::r:Bytes).length:Int)≤((1::r:Bytes).length:Int)∧((1::r:Bytes).take ((1::r:Bytes).length:Int).toNat).drop (1:Int).toNat=r:=by
     refine⟨by omega,by simp;omega,Int.le_refl _,?_⟩
     rw[Int.toNat_natCast,List.take_length]
     rfl
    rw[e]
    generalize getM r=x at kr
    obtain⟨m,e⟩:=x
    repeat' (first|refine DW_VB tabs rfl (by first|exact d1|exact d2|exact d3) ?_|refine DW_A tabs rfl ?_|refine DW_nil ?_|refine W_A rfl ?_|refine DW_C rfl kr ?_|refine DW_by tabOK rfl (⟨Int.le_refl 0,rfl⟩) ?_|refine DW_sub tabOK rfl (s1) ?_)
    exact⟨rfl,_,rfl,_,rfl,SubC.of_closed (closed_rm (m,false,e))⟩
   ·have d3:(!decide ((c.toNat:Int)=1))=true:=by
     have:¬(c.toNat:Int)=1:=by
      intro h
      exact h1 (UInt8.toNat_inj.1 (by show c.toNat=1;omega))
     simp only[this,decide_false,Bool.not_false]
    have e:readM (c::r)=(zeroMt,false,30):=(if_neg h0).trans (if_neg h1)
    rw[e]
    repeat' (first|refine DW_VB tabs rfl (by first|exact d1|exact d2|exact d3) ?_|refine DW_A tabs rfl ?_|refine DW_nil ?_|refine W_A rfl ?_|refine DW_by tabOK rfl (⟨Int.le_refl 0,rfl⟩) ?_)
    exact⟨rfl,_,rfl,_,rfl,SubC.tup3 sub_zero (SubC.of_closed closed_bool) (SubC.of_closed closed_int)⟩
end Go.Proofs.YtbcaejhhgkcgpaaGreatDoor
namespace Go.Ab
open Go.RowKit
section
variable {P:Program} {ops:Array Oper} {cls:Nat→Cls} {Q:AX→AF→Mem→Prop} {ds:List ADef}
inductive Plan where
 |fin (o:List Nat)
 |two (pre:List Nat) (a b:Nat) (p q:Plan)
def Plan.size:Plan→Nat
 |.fin o=>o.length
 |.two pre _ _ p _=>pre.length+(p.size+1)
structure Both (A B:Prop):Prop where
 l:A
 r:B
def thenQ (K:List (Nat×AV)→Mem→Prop) (Q:AX→AF→Mem→Prop):AX→AF→Mem→Prop
 |.normal,f,M=>K f.t M
 |x,f,M=>Q x f M
def TDW (P:Program) (ops:Array Oper) (cls:Nat→Cls) (Q:AX→AF→Mem→Prop) (ds:List ADef):Plan→List (Nat×AV)→Mem→Prop
 |.fin o,t,M=>DW P ops cls Q ds o t M
 |.two pre a b p q,t,M=>DW P ops cls (thenQ (fun t M=>Both (DW P ops cls (thenQ (TDW P ops cls Q ds p) Q) ds [a] t M) (DW P ops cls (thenQ (TDW P ops cls Q ds q) Q) ds [b] t M)) Q) ds pre t M
def preOK (ops:Array Oper) (cls:Nat→Cls):List Nat→Array Bool→Option (Array Bool)
 |[],listed=>some listed
 |i::l,listed=>if (Region.ready .any ops listed).contains i&&stepOK ops cls i listed then preOK ops cls l (listed.setIfInBounds i true) else none
def pOK (ops:Array Oper) (cls:Nat→Cls):Plan→Array Bool→Bool
 |.fin o,listed=>dOK ops cls o listed
 |.two pre a b p q,listed=>match preOK ops cls pre listed with
  |none=>false
  |some l=>((Region.ready .any ops l).all fun j=>j==a||j==b)&&!(Region.ready .any ops l).isEmpty&&(p.size==q.size)&&pOK ops cls p (l.setIfInBounds a true)&&pOK ops cls q (l.setIfInBounds b true)
theorem dw_head {i:Nat} {l:List Nat} {t:List (Nat×AV)} {M:Mem} {K:Fr→Mem→Prop} (h:DWr P ops cls Q ds (i::l) t M) (hk:∀t' N,DWr P ops cls Q ds l t' N→K (frOf t') N):
  opA P ops cls (fun v M'=>Q (.panic v) ⟨keepT ds,ds⟩ M') i K (frOf t) M:=by
 unfold DWr at h
 unfold opA
 cases hoi:ops[i]? with
 |none=>simp only[hoi] at h
 |some oi=>
  simp only[hoi] at h ⊢
  rw[wantF_frOf (ds:=ds)]
  split at h
  ·rename_i hw
   rw[hw]
   refine SC.mono (SC.congr h fun y _=>evF_frOf t y) fun u N _ hu=>?_
   have:=hk _ N hu
   rw[frOf_put] at this
   exact this
  ·rename_i hw
   rw[hw]
   have:=hk _ M h
   rw[frOf_put] at this
   exact this
  ·exact h.elim
theorem pre_sound {K:List (Nat×AV)→Mem→Prop} {n:Nat} {l:Array Bool} (hK:∀(t:List (Nat×AV)) (M:Mem),K t M→AnyA P ops cls (fun v M'=>Q (.panic v) ⟨keepT ds,ds⟩ M') (fun φ M=>∃t,frOf t=φ∧Q .normal ⟨t,ds⟩ M) n l (frOf t) M):
  ∀(ord:List Nat) (listed:Array Bool) (t:List (Nat×AV)) (M:Mem),preOK ops cls ord listed=some l→DWr P ops cls (thenQ K Q) ds ord t M→
  AnyA P ops cls (fun v M'=>Q (.panic v) ⟨keepT ds,ds⟩ M') (fun φ M=>∃t,frOf t=φ∧Q .normal ⟨t,ds⟩ M) (ord.length+n) listed (frOf t) M
 |[],listed,t,M,hk,h=>by
  cases hk
  rw[show ([]:List Nat).length+n=n from by simp]
  exact hK t M h
 |i::r,listed,t,M,hk,h=>by
  unfold preOK at hk
  split at hk
  case isFalse=>cases hk
  rename_i hc
  simp only[Bool.and_eq_true,List.contains_iff_mem] at hc
  obtain⟨h1,h2⟩:=hc
  have h3:=hk
  unfold stepOK at h2
  split at h2
  case h_1=>cases h2
  rename_i oi hoi
  simp only[Bool.and_eq_true] at h2
  obtain⟨⟨h4,h5⟩,h6⟩:=h2
  have hall:=List.all_eq_true.1 h6
  unfold subB at h5
  simp only[Bool.and_eq_true,beq_iff_eq] at h5
  obtain⟨hsz,h5⟩:=h5
  rw[show (i::r).length+n=(r.length+n)+1 from by simp;omega]
  refine any_first hoi (R:=fun j=>(clos ops i listed).getD j false) ?_ (r.length+n) listed (frOf t) M ?_ h1 ?_ ?_
  ·intro j oj hji hoj hpre
   have hj:j < ops.size:=(Array.getElem?_eq_some_iff.1 hoj).1
   have:=(List.all_eq_true.1 h4) j (List.mem_range.2 hj)
   simp only[Bool.or_eq_true,beq_iff_eq,Bool.not_eq_true'] at this
   rcases this with (hh|hh)|hh
   ·exact absurd hh hji
   ·exact hh
   ·exfalso
    rw[hoj] at hh
    simp only[Option.map_some,Option.getD_some] at hh
    have ht:(oj.after.all fun e=>!Region.binds .any e||(clos ops i listed).getD e.on false)=true:=by
     rw[Array.all_eq_true_iff_forall_mem]
     intro e he
     cases hb:Region.binds .any e with
     |false=>rfl
     |true=>simpa using hpre e he hb
    rw[ht] at hh
    cases hh
  ·intro j hj
   have hlt:j < ops.size:=by
    rcases Nat.lt_or_ge j ops.size with h|h
    ·exact h
    ·rw[Array.getD_eq_getD_getElem?,Array.getElem?_eq_none (by omega)] at hj
     cases hj
   have:=(List.all_eq_true.1 h5) j (List.mem_range.2 hlt)
   simp only[hj,Bool.not_true,Bool.false_or] at this
   exact this
  ·intro j oj hoj hji hR hun
   have hj:j < ops.size:=(Array.getElem?_eq_some_iff.1 hoj).1
   have:=hall j (List.mem_range.2 hj)
   simp only[hR,hun,hoj,Bool.not_true,Bool.or_false,Bool.or_eq_true,beq_iff_eq,Bool.and_eq_true] at this
   rcases this with hh|hh
   ·first|exact absurd hh hji|(rcases hh with hh|hh<;>first|exact absurd hh hji|cases hh)
   ·exact hh
  ·exact dw_head (Q:=thenQ K Q) h fun t' N ht=>pre_sound hK r _ t' N h3 ht
theorem tdw_sound:∀(p:Plan) (listed:Array Bool) (t:List (Nat×AV)) (M:Mem),pOK ops cls p listed=true→TDW P ops cls Q ds p t M→
  AnyA P ops cls (fun v M'=>Q (.panic v) ⟨keepT ds,ds⟩ M') (fun φ M=>∃t,frOf t=φ∧Q .normal ⟨t,ds⟩ M) p.size listed (frOf t) M
 |.fin o,listed,t,M,hk,h=>dw_sound o listed t M hk h.run
 |.two pre a b p q,listed,t,M,hk,h=>by
  unfold pOK at hk
  split at hk
  case h_1=>cases hk
  rename_i l hl
  simp only[Bool.and_eq_true,List.all_eq_true,Bool.or_eq_true,beq_iff_eq,Bool.not_eq_true'] at hk
  obtain⟨⟨⟨⟨h1,h2⟩,h0⟩,h3⟩,h4⟩:=hk
  refine pre_sound (n:=p.size+1) (l:=l) ?_ pre listed t M hl h.run
  rintro t M ⟨g1,g2⟩
  refine⟨fun he=>(by rw[he] at h2;cases h2),fun j hj=>?_⟩
  rcases h1 j hj with rfl|rfl
  ·exact dw_head (Q:=thenQ (TDW P ops cls Q ds p) Q) g1.run fun t' N ht=>tdw_sound p _ t' N h3 ht
  ·rw[h0]
   exact dw_head (Q:=thenQ (TDW P ops cls Q ds q) Q) g2.run fun t' N ht=>tdw_sound q _ t' N h4 ht
theorem W_drawT {r:Option Nat} {n id:Nat} {t:List (Nat×AV)} {M:Mem} (hm:P.follows .mixedOrders=true) (p:Plan) (cl:List Cls) (hd0:(ops.toList.all fun o=>dstOK ds o n)=true) (hl:p.size=ops.size)
  (hk:pOK ops (fun i=>cl.getD i .E) p (Array.replicate ops.size false)=true) (h:TDW P ops (fun i=>cl.getD i .E) Q ds p t M):W r P n (.region id ops true) Q ⟨t,ds⟩ M:=by
 have hd:(ops.all fun o=>dstOK ds o n)=true:=by rw[←Array.all_toList];exact hd0
 refine⟨fun μ F w a hg hr=>?_⟩
 refine wpIn_region_any hm ?_
 have hb:Below w.heap.size w {w with drawn:=w.drawn+1}:=⟨rfl,rfl,rfl,Nat.le_refl _,fun _ _=>rfl⟩
 have hev:=Evo.of_below μ hb
 have hany:=tdw_sound p _ t M hk h
 rw[hl] at hany
 have hrf:RepΦ μ F w n (frOf t) ds a:=⟨hr.size,hr.tmps,hr.defs,hr.kept⟩
 refine any_sound (r:=r) (ds:=ds) hd (F:=F) ops.size _ (frOf t) M μ {w with drawn:=w.drawn+1} a (hg.below hb) (hrf.evo hev) ?_ ?_ hany
 ·rintro μ' φ' M' w' a' e1 e2 e3 ⟨t',rfl,hq⟩
  exact⟨μ',⟨t',ds⟩,M',.normal,hev.trans e1,e2,⟨e3.size,e3.tmps,e3.defs,e3.kept⟩,trivial,hq⟩
 ·intro μ' φ' M' w' a' v u e1 e2 e3 e4 hq
  exact⟨μ',⟨keepT ds,ds⟩,M',.panic u,hev.trans e1,e2,⟨e3.size,kept_get e3.kept,e3.defs,e3.kept⟩,⟨v,rfl,e4⟩,hq⟩
end
end Go.Ab
namespace Go.Proofs.YtbcaejhhgkcgpaaGreatDoor
open Go.Ab
def errA (e:Int):AV:=.iface 23 (.int .i64 e)
theorem closed_err (e:Int):Closed (errA e):=closed_iface closed_int
def readerR (s:Bytes) (e:AEnd) (d:List AV):Prop:=
 match getNum s with
 |some (n,r)=>e=.ret (.int .i64 (n:Int))∧d=[.str r]
 |none=>e=.pan (errA 30)∧d=[.str s]
set_option maxRecDepth 100000 in
set_option maxHeartbeats 8000000 in
theorem reader0 (s:Bytes) (hs:s.length < 1000000):ACalls Tryz.prog 158 [.ptr 0 0] ⟨1,[(0,.cells [.str s])]⟩ (fun e N=>N.next=1∧∃d,N.get 0=some (.cells d)∧readerR s e d):=by
 refine acalls_of tabOK Tryz.func158 rfl (by decide) (by simp[Tryz.f158]) ?_
 have kg:=getNumber_ok s (by omega)
 unfold readerR
 cases hg:getNum s with
 |none=>
  rw[hg] at kg
  repeat' (first|refine DW_A tabs rfl ?_|refine DW_nil ?_|refine W_A rfl ?_|refine DW_C rfl kg ?_)
  refine DW_panic rfl rfl rfl rfl rfl ?_
  exact⟨rfl,rfl,_,rfl,rfl,rfl⟩
 |some p=>
  obtain⟨n,r⟩:=p
  rw[hg] at kg
  repeat' (first|refine DW_A tabs rfl ?_|refine DW_nil ?_|refine W_A rfl ?_|refine DW_C rfl kg ?_)
  exact⟨rfl,_,rfl,rfl,_,rfl,rfl,rfl⟩
theorem reader_ok {M:Mem} {id:Nat} {s:Bytes} (hM:M.get id=some (.cells [.str s])) (hlt:id < M.next) (hs:s.length < 1000000):
  ACalls Tryz.prog 158 [.ptr id 0] M fun e N=>∃d,readerR s e d∧N=M.set id (.cells d):=by
 refine ACalls.frame1 id hM hlt (closed1 closed_str) (reader0 s hs) ⟨InV.ptr rfl,trivial⟩ ?_
 intro e d h
 unfold readerR at h
 cases hg:getNum s with
 |none=>
  rw[hg] at h
  obtain⟨rfl,rfl⟩:=h
  refine⟨closed_err 30,closed1 closed_str,_,?_,rfl⟩
  unfold readerR
  rw[hg]
  exact⟨rfl,rfl⟩
 |some p=>
  obtain⟨n,r⟩:=p
  rw[hg] at h
  obtain⟨rfl,rfl⟩:=h
  refine⟨closed_int,closed1 closed_str,_,?_,rfl⟩
  unfold readerR
  rw[hg]
  exact⟨rfl,rfl⟩
theorem reader_some {M:Mem} {id:Nat} {s r:Bytes} {n:Nat} (hg:getNum s=some (n,r)) (hM:M.get id=some (.cells [.str s])) (hlt:id < M.next) (hs:s.length < 1000000):
  ACalls Tryz.prog 158 [.ptr id 0] M fun e N=>e=.ret (.int .i64 (n:Int))∧N=M.set id (.cells [.str r]):=by
 refine (reader_ok hM hlt hs).mono ?_
 rintro e N ⟨d,h,rfl⟩
 unfold readerR at h
 rw[hg] at h
 obtain⟨rfl,rfl⟩:=h
 exact⟨rfl,rfl⟩
theorem reader_none {M:Mem} {id:Nat} {s:Bytes} (hg:getNum s=none) (hM:M.get id=some (.cells [.str s])) (hlt:id < M.next) (hs:s.length < 1000000):
  ACalls Tryz.prog 158 [.ptr id 0] M fun e N=>e=.pan (errA 30)∧N=M.set id (.cells [.str s]):=by
 refine (reader_ok hM hlt hs).mono ?_
 rintro e N ⟨d,h,rfl⟩
 unfold readerR at h
 rw[hg] at h
 obtain⟨rfl,rfl⟩:=h
 exact⟨rfl,rfl⟩
def At (s:Bytes) (l:List Nat) (q:Bytes):Prop:=nums s=(nums q).map (l++·)
theorem at_nil (s:Bytes):At s [] s:=by
 unfold At
 cases nums s<;>rfl
theorem at_next {s q r:Bytes} {l:List Nat} {n:Nat} (h:At s l q) (hg:getNum q=some (n,r)):At s (l++[n]) r:=by
 unfold At at*
 rw[h,nums_some hg,Option.map_map]
 congr 1
 funext x
 simp
theorem getM_stop {s q:Bytes} {l:List Nat} (h:At s l q) (hg:getNum q=none) (hl:∀a b c m,l=a::b::c::m→c≠m.length):getM s=(zeroMt,30):=by
 unfold getM
 unfold At at h
 rw[h]
 by_cases hq:q=[]
 ·subst hq
  rw[nums_nil]
  match l,hl with
  |[],_=>rfl
  |[_],_=>rfl
  |[_,_],_=>rfl
  |a::b::c::m,hl=>
   simp only[Option.map_some,List.append_nil]
   exact getMo_no fun e=>absurd e (hl a b c m rfl)
 ·rw[nums_none hg hq]
  rfl
theorem getM_many {s q:Bytes} {a b c:Nat} (h:At s [a,b,c] q) (hc:16 < c):getM s=(zeroMt,30):=by
 unfold getM
 unfold At at h
 rw[h]
 cases nums q with
 |none=>rfl
 |some m=>
  refine getMo_no fun e=>?_
  unfold isM
  have:¬m.length≤16:=by
   have e':c=m.length:=e
   omega
  simp[this]
theorem getM_more {s q:Bytes} {a b c:Nat} {m:List Nat} (h:At s (a::b::c::m) q) (hc:c=m.length) (hq:q≠[]):getM s=(zeroMt,30):=by
 unfold getM
 unfold At at h
 rw[h]
 cases hn:nums q with
 |none=>rfl
 |some k=>
  have hk:k≠[]:=by
   rintro rfl
   cases hg:getNum q with
   |none=>rw[nums_none hg hq] at hn;cases hn
   |some p=>
    obtain⟨n,r⟩:=p
    rw[nums_some hg] at hn
    cases hr:nums r<;>rw[hr] at hn<;>cases hn
  have hpos:=List.length_pos_iff.2 hk
  refine getMo_no fun e=>?_
  have e':c=(m++k).length:=e
  rw[List.length_append] at e'
  omega
theorem getM_end {s:Bytes} {a b c:Nat} {m:List Nat} (h:At s (a::b::c::m) []):getM s=getMo (some (a::b::c::m)):=by
 unfold getM
 unfold At at h
 rw[h,nums_nil]
 simp
end Go.Proofs.YtbcaejhhgkcgpaaGreatDoor
