/- Parts of the proof, one behind the other. No further condition. -/
import Derived.Test.YteliblifgdofgaaGreatDoorK11
import Derived.Test.YteliblifgdofgaaGreatDoorK10
import Derived.Test.YteliblifgdofgaaGreatDoorK08
import Derived.Test.YteliblifgdofgaaGreatDoorK09
set_option linter.unusedVariables false
set_option linter.unusedSimpArgs false
set_option maxRecDepth 100000
set_option maxHeartbeats 8000000
namespace Go.Proofs.YteliblifgdofgaaGreatDoor
open Go.Ab
def c5:aD→Option (Nat×aD)
 |[]=>none
 |c::r=>if 4 < c.toNat∨r.length < c.toNat∨(r.take c.toNat).head?=some 0 then none else some (rL (r.take c.toNat),r.drop c.toNat)
theorem j7 {c:UInt8} {r:aD} (h:4 < c.toNat∨r.length < c.toNat∨(r.take c.toNat).head?=some 0):c5 (c::r)=none:=if_pos h
theorem l6 {c:UInt8} {r:aD} (h:¬(4 < c.toNat∨r.length < c.toNat∨(r.take c.toNat).head?=some 0)):c5 (c::r)=some (rL (r.take c.toNat),r.drop c.toNat):=if_neg h
def gnA:Option (Nat×aD)→AV
 |some (n,r)=>.tup [.int .i64 (n:Int),.str r,.bool true]
 |none=>.tup [.int .i64 0,.str [],.bool false]
theorem jS (s:aD) (hs:s.length < 4611686018427387904):aO Tryz.prog 120 [.str s] (gnA (c5 s)):=by
 intro M
 refine aC aF Tryz.func120 rfl (by decide) (by simp[Tryz.f120]) ?_
 cases s with
 |nil=>
  have d1:(([]:aD)==[])=true:=rfl
  repeat' (first|refine zA rfl ?_|refine aA ?_|refine aL rfl ?_)
  exact⟨rfl,_,rfl,rfl,rfl⟩
 |cons c r=>
  have d1:((c::r)==[])=false:=rfl
  have hc:=c.toNat_lt
  have b1:=JG c
  have hl:(c::r).length=r.length+1:=rfl
  cases d2:decide ((4:Int) < (c.toNat:Int))
  ·have d2':=of_decide_eq_false d2
   cases d3:decide (((c::r).length:Int)≤(c.toNat:Int))
   ·have d3':=of_decide_eq_false d3
    have e1:IntKind.wrap .i64 (1+(c.toNat:Int))=((1+c.toNat:Nat):Int):=(Go.Ab.wrap_small (by omega) (by omega)).trans (by omega)
    have s1:(0:Int)≤1∧(1:Int)≤((1+c.toNat:Nat):Int)∧((1+c.toNat:Nat):Int)≤((c::r).length:Int)∧((c::r).take ((1+c.toNat:Nat):Int).toNat).drop (1:Int).toNat=r.take c.toNat:=by
     refine⟨by omega,by omega,by omega,?_⟩
     rw[Int.toNat_natCast,Nat.add_comm,List.take_succ_cons]
     rfl
    have s2:(0:Int)≤((1+c.toNat:Nat):Int)∧((1+c.toNat:Nat):Int)≤((c::r).length:Int)∧((c::r).length:Int)≤((c::r).length:Int)∧((c::r).take ((c::r).length:Int).toNat).drop ((1+c.toNat:Nat):Int).toNat=r.drop c.toNat:=by
     refine⟨by omega,by omega,by omega,?_⟩
     rw[Int.toNat_natCast,Int.toNat_natCast,List.take_length,Nat.add_comm,List.drop_succ_cons]
    have hlb:(r.take c.toNat).length=c.toNat:=by rw[List.length_take];omega
    have hnl:=FB 4 (r.take c.toNat) (by omega)
    by_cases h0:(r.take c.toNat).head?=some 0
    ·rw[j7 (.inr (.inr h0))]
     obtain⟨B,hB⟩:∃B,r.take c.toNat=0::B:=by
      cases hq:r.take c.toNat with
      |nil=>rw[hq] at h0;cases h0
      |cons a B=>rw[hq] at h0;cases h0;exact⟨B,rfl⟩
     have d4:(!((0::B:aD)==[]))=true:=rfl
     have d5:decide (((0:UInt8).toNat:Int)=0)=true:=rfl
     rw[hB] at s1
     repeat' (first|refine zB rfl (by first|exact d1|exact d2|exact d3|exact d4) ?_|refine zI rfl (by first|exact b1|exact e1) ?_|refine zA rfl ?_|refine aA ?_|refine aL rfl ?_|refine wD aF rfl (⟨Int.le_refl 0,rfl⟩) ?_|refine mJ aF rfl (s1) ?_|refine mJ aF rfl (s2) ?_|refine aW mixed [0,1,2,3,4,5,6,7,8,9,10,11,12,13] [.P,.P,.P,.P,.P,.P,.P,.P,.P,.P,.P,.P,.P,.P] rfl rfl (by kernel_rfl) ?_)
     exact⟨rfl,_,rfl,rfl,rfl⟩
    ·rw[l6 (by rintro (h|h|h);omega;omega;exact h0 h)]
     generalize hB:r.take c.toNat=B at s1 hlb hnl h0
     generalize hR:r.drop c.toNat=R at s2
     have h4:(!(B==[]))=false∨∃a,(!(B==[]))=true∧B[0]? =some a∧decide ((a.toNat:Int)=0)=false:=by
      cases B with
      |nil=>exact .inl rfl
      |cons a B=>
       refine .inr ⟨a,rfl,rfl,?_⟩
       rw[decide_eq_false_iff_not]
       intro h
       apply h0
       have:a=0:=UInt8.toNat_inj.1 (by simpa using h)
       rw[this]
       rfl
     rcases h4 with d4|⟨a,d4,ha,d5⟩
     focus
      repeat' (first|refine zB rfl (by first|exact d1|exact d2|exact d3|exact d4) ?_|refine zI rfl (by first|exact b1|exact e1) ?_|refine zA rfl ?_|refine aA ?_|refine aL rfl ?_|refine wD aF rfl (⟨Int.le_refl 0,rfl⟩) ?_|refine mJ aF rfl (s1) ?_|refine mJ aF rfl (s2) ?_|refine aW mixed [0,1,2,3,4,5,6,7,8,9,10,11,12,13] [.P,.P,.P,.P,.P,.P,.P,.P,.P,.P,.P,.P,.P,.P] rfl rfl (by kernel_rfl) ?_)
     rotate_left
     focus
      repeat' (first|refine zB rfl (by first|exact d1|exact d2|exact d3|exact d4|exact d5) ?_|refine zI rfl (by first|exact b1|exact e1) ?_|refine zA rfl ?_|refine aA ?_|refine aL rfl ?_|refine wD aF rfl (⟨Int.le_refl 0,rfl⟩) ?_|refine wD aF rfl (⟨Int.le_refl 0,ha⟩) ?_|refine mJ aF rfl (s1) ?_|refine mJ aF rfl (s2) ?_|refine aW mixed [0,1,2,3,4,5,6,7,8,9,10,11,12,13] [.P,.P,.P,.P,.P,.P,.P,.P,.P,.P,.P,.P,.P,.P] rfl rfl (by kernel_rfl) ?_)
     all_goals
      refine bC B.length (fun i f N=>N=M∧(True)∧f=⟨[(5,.str B),(6,.str R),(7,.int .i64 ((rL (B.take i):Nat):Int)),(45,.int .i64 (B.length:Int)),(46,.int .i64 (i:Int))],[]⟩) (Nat.zero_le _) ⟨rfl,trivial,rfl⟩ (aR.le ?_ (aG.le_refl _)) ?_
      ·skip
       repeat (refine AF.le_cons rfl ?_)
       exact AF.le_nil rfl
      rintro i f N hi ⟨rfl,hinv,rfl⟩
      by_cases h1:i < B.length
      ·have d1:decide ((i:Int) < (B.length:Int))=true:=by simp;omega
       have hx:B[i]? =some B[i]:=List.getElem?_eq_getElem h1
       have fi:=aZ (i:=i) (by omega)
       have ht:=bM hx
       have hm:=List.getElem_mem h1
       generalize B[i]=b at hx ht hm
       have hml:rL (B.take i) < 256^4:=FB 4 _ (by simp;omega)
       have hnm:=OG (B.take i) b
       rw[←ht] at hnm
       generalize rL (B.take i)=m at hnm hml
       have hb:=b.toNat_lt
       have g1:IntKind.wrap .i64 ((m:Int)*(2:Int)^(min (8:Int).toNat IntKind.i64.bits))=((m*256:Nat):Int):=by
        have:(2:Int)^(min (8:Int).toNat IntKind.i64.bits)=256:=rfl
        rw[this]
        exact (Go.Ab.wrap_small (by omega) (by omega)).trans (by omega)
       have g2:=JG b
       have g3:=a6f m b (by omega)
       repeat' (first|refine zB rfl d1 ?_|refine zI rfl (by first|exact g1|exact g2|exact g3|exact fi) ?_|refine zA rfl ?_|refine aA ?_|refine aL rfl ?_|refine wD aF rfl (byN hx) ?_)
       refine⟨h1,_,_,⟨rfl,?_,rfl⟩,aR.le ?_ (aG.le_refl _)⟩
       ·trivial
       ·rw[hnm]
        repeat (refine AF.le_cons rfl ?_)
        exact AF.le_nil rfl
      ·have d1:decide ((i:Int) < (B.length:Int))=false:=by simp;omega
       obtain rfl:i=B.length:=by omega
       rw[List.take_length]
       repeat' (first|refine zB rfl d1 ?_|refine zA rfl ?_|refine aA ?_|refine aL rfl ?_)
       exact⟨rfl,_,rfl,rfl,rfl⟩
   ·have d3':=of_decide_eq_true d3
    rw[j7 (.inr (.inl (by omega)))]
    repeat' (first|refine zB rfl (by first|exact d1|exact d2|exact d3) ?_|refine zI rfl b1 ?_|refine zA rfl ?_|refine aA ?_|refine aL rfl ?_|refine wD aF rfl (⟨Int.le_refl 0,rfl⟩) ?_)
    exact⟨rfl,_,rfl,rfl,rfl⟩
  ·have d2':=of_decide_eq_true d2
   rw[j7 (.inl (by omega))]
   repeat' (first|refine zB rfl (by first|exact d1|exact d2) ?_|refine zI rfl b1 ?_|refine zA rfl ?_|refine aA ?_|refine aL rfl ?_|refine wD aF rfl (⟨Int.le_refl 0,rfl⟩) ?_)
   exact⟨rfl,_,rfl,rfl,rfl⟩
theorem ZM {m:Nat} (h:m < 4294967296):MJ (m:Int)=.tup [.str (gN m),.int .i64 0]:=if_pos ⟨by omega,by omega⟩
theorem m6 {m:Nat} (h:m < 4294967296):aO Tryz.prog 56 [.int .i64 (m:Int)] (.tup [.str (gN m),.int .i64 0]):=by
 rw[←ZM h]
 exact RC _
theorem dB {n j:Nat} {b:UInt8} (h:n/256^j%256=b.toNat):gI n j=b:=by
 unfold gI
 rw[h]
 exact UInt8.ofNat_toNat
theorem a3v (B:aD) (h:B.length≤4):KB (rL B)=List.replicate (4 - B.length) 0++B:=by
 have z:((0:UInt8).toNat:Nat)=0:=rfl
 match B,h with
 |[],_=>rfl
 |[a],_=>
  have ha:=a.toNat_lt
  have e:rL [a]=a.toNat:=by simp[rL]
  rw[e]
  unfold KB
  rw[dB (b:=0) (j:=3) (by rw[z];omega),dB (b:=0) (j:=2) (by rw[z];omega),dB (b:=0) (j:=1) (by rw[z];omega),dB (b:=a) (j:=0) (by omega)]
  rfl
 |[a,b],_=>
  have ha:=a.toNat_lt
  have hb:=b.toNat_lt
  have e:rL [a,b]=a.toNat*256+b.toNat:=by simp[rL]
  rw[e]
  unfold KB
  rw[dB (b:=0) (j:=3) (by rw[z];omega),dB (b:=0) (j:=2) (by rw[z];omega),dB (b:=a) (j:=1) (by omega),dB (b:=b) (j:=0) (by omega)]
  rfl
 |[a,b,c],_=>
  have ha:=a.toNat_lt
  have hb:=b.toNat_lt
  have hc:=c.toNat_lt
  have e:rL [a,b,c]=(a.toNat*256+b.toNat)*256+c.toNat:=by simp[rL]
  rw[e]
  unfold KB
  rw[dB (b:=0) (j:=3) (by rw[z];omega),dB (b:=a) (j:=2) (by omega),dB (b:=b) (j:=1) (by omega),dB (b:=c) (j:=0) (by omega)]
  rfl
 |[a,b,c,d],_=>
  have ha:=a.toNat_lt
  have hb:=b.toNat_lt
  have hc:=c.toNat_lt
  have hd:=d.toNat_lt
  have e:rL [a,b,c,d]=((a.toNat*256+b.toNat)*256+c.toNat)*256+d.toNat:=by simp[rL]
  rw[e]
  unfold KB
  rw[dB (b:=a) (j:=3) (by omega),dB (b:=b) (j:=2) (by omega),dB (b:=c) (j:=1) (by omega),dB (b:=d) (j:=0) (by omega)]
  rfl
 |_::_::_::_::_::_,h=>simp at h
theorem a9g (k:Nat) (B:aD):(List.replicate k 0++B).dropWhile (·==0)=B.dropWhile (·==0):=by
 induction k with
 |zero=>rfl
 |succ k ih=>simp[List.replicate_succ,ih]
theorem a86 {B:aD} (h:B.length≤4):nb (rL B)=B.dropWhile (·==0):=by
 have e:(KB (rL B)).take 4=KB (rL B):=rfl
 unfold nb HJ
 rw[e,a3v B h,a9g]
theorem a0y {B:aD} {c:UInt8} (h:B.length≤4) (hc:c.toNat=B.length):(gN (rL B)==c::B)=!(decide (B.head?=some 0)):=by
 unfold gN
 rw[a86 h]
 cases B with
 |nil=>
  have:c=UInt8.ofNat 0:=UInt8.toNat_inj.1 hc
  subst this
  rfl
 |cons b B=>
  by_cases hb:b=0
  ·subst hb
   have e:((0:UInt8)::B).dropWhile (·==0)=B.dropWhile (·==0):=rfl
   have hl:(B.dropWhile (·==0)).length≤B.length:=(List.dropWhile_sublist _).length_le
   rw[e]
   simp only[List.head?_cons,decide_true,Bool.not_true,beq_eq_false_iff_ne]
   intro he
   have:=congrArg List.length he
   simp at this
   omega
  ·have e:(b::B).dropWhile (·==0)=b::B:=by
    rw[List.dropWhile_cons]
    simp[hb]
   have hcc:UInt8.ofNat (b::B).length=c:=by rw[←hc];exact UInt8.ofNat_toNat
   rw[e,hcc]
   simp[hb]
def iA (l:List Int) (t:eE):AV:=.sl 1 (l.map fun n=>AV.int .i64 n) t
theorem VT (a b:List Int) (ta tb:eE) (ha:a.length < 1000000000) (hb:b.length < 1000000000):aO Tryz.prog 52 [iA a ta,iA b tb] (.bool (decide (a=b))):=by
 intro M
 refine aC aF Tryz.func52 rfl (by decide) (by simp[Tryz.f52]) ?_
 have la:=bA (fun n=>AV.int .i64 n) a
 have lb:=bA (fun n=>AV.int .i64 n) b
 unfold iA
 by_cases hl:a.length=b.length
 ·have d0:(!decide ((a.length:Int)=(b.length:Int)))=false:=by simp;omega
  repeat' (first|refine zB rfl d0 ?_|refine zI rfl (by first|exact la|exact lb) ?_|refine zA rfl ?_|refine aA ?_|refine aL rfl ?_)
  refine bC a.length (fun i f N=>N=M∧(a.take i=b.take i)∧f=⟨[(0,.sl 1 (a.map fun n=>AV.int .i64 n) ta),(1,.sl 1 (b.map fun n=>AV.int .i64 n) tb),(5,.int .i64 (i:Int))],[]⟩) (Nat.zero_le _) ⟨rfl,by simp,rfl⟩ (aR.le ?_ (aG.le_refl _)) ?_
  ·skip
   repeat (refine AF.le_cons rfl ?_)
   exact AF.le_nil rfl
  rintro i f N hi ⟨rfl,hinv,rfl⟩
  by_cases h1:i < a.length
  ·have d1:decide ((i:Int) < (a.length:Int))=true:=by simp;omega
   have hx:a[i]? =some a[i]:=List.getElem?_eq_getElem h1
   have fi:=aZ (i:=i) (by omega)
   have ht:=bM hx
   have hm:=List.getElem_mem h1
   generalize a[i]=x at hx ht hm
   have hy:b[i]? =some b[i]:=List.getElem?_eq_getElem (by omega)
   have ht2:=bM hy
   generalize b[i]=y at hy ht2
   cases h2:decide (x=y)
   ·have d2:(!decide (x=y))=true:=by rw[h2];rfl
    have e:decide (a=b)=false:=by
     rw[decide_eq_false_iff_not]
     rintro rfl
     rw[hx] at hy
     cases hy
     simp at h2
    rw[e]
    repeat' (first|refine zB rfl (by first|exact d1|exact d2) ?_|refine zI rfl la ?_|refine zA rfl ?_|refine aA ?_|refine aL rfl ?_|refine zX rfl (fB hx) ?_|refine zX rfl (fB hy) ?_|refine aW mixed [0,1,4,5,2,3,6,7,8] [.P,.P,.R,.R,.P,.P,.R,.R,.P] rfl rfl (by kernel_rfl) ?_)
    exact⟨rfl,_,rfl,rfl,rfl⟩
   ·have d2:(!decide (x=y))=false:=by rw[h2];rfl
    have:=of_decide_eq_true h2
    subst this
    repeat' (first|refine zB rfl (by first|exact d1|exact d2) ?_|refine zI rfl (by first|exact la|exact fi) ?_|refine zA rfl ?_|refine aA ?_|refine aL rfl ?_|refine zX rfl (fB hx) ?_|refine zX rfl (fB hy) ?_|refine aW mixed [0,1,4,5,2,3,6,7,8] [.P,.P,.R,.R,.P,.P,.R,.R,.P] rfl rfl (by kernel_rfl) ?_)
    refine⟨h1,_,_,⟨rfl,(by rw[ht,ht2,hinv]),rfl⟩,aR.le ?_ (aG.le_refl _)⟩
    repeat (refine AF.le_cons rfl ?_)
    exact AF.le_nil rfl
  ·have d1:decide ((i:Int) < (a.length:Int))=false:=by simp;omega
   obtain rfl:i=a.length:=by omega
   have e:a=b:=by
    rw[List.take_length,hl,List.take_length] at hinv
    exact hinv
   have e:decide (a=b)=true:=decide_eq_true e
   rw[e]
   repeat' (first|refine zB rfl d1 ?_|refine zI rfl la ?_|refine zA rfl ?_|refine aA ?_|refine aL rfl ?_)
   exact⟨rfl,_,rfl,rfl,rfl⟩
 ·have d0:(!decide ((a.length:Int)=(b.length:Int)))=true:=by simp;omega
  have e:decide (a=b)=false:=by
   rw[decide_eq_false_iff_not]
   rintro rfl
   exact hl rfl
  rw[e]
  repeat' (first|refine zB rfl d0 ?_|refine zI rfl (by first|exact la|exact lb) ?_|refine zA rfl ?_|refine aA ?_|refine aL rfl ?_)
  exact⟨rfl,_,rfl,rfl,rfl⟩
structure Mt where
 size:Int
 mode:Int
 ch:List Int
deriving DecidableEq
def Mt.cells (m:Mt):List AV:=[.int .i64 m.size,.int .i64 m.mode,iA m.ch .none]
def Mt.av (m:Mt):AV:=.agg m.cells
def cC:Mt:=⟨0,0,[]⟩
theorem gU (l:List Int) {t:eE} (ht:t=.none∨t=.full):aN (iA l t):=by
 refine bR ht ?_ ?_
 ·intro x hx
  obtain⟨n,_,rfl⟩:=List.mem_map.1 hx
  exact aB
 ·intro x hx c hc
  obtain⟨n,_,rfl⟩:=List.mem_map.1 hx
  simp[AV.cells] at hc
  subst hc
  exact aB
theorem EZ (m:Mt):∀x,x∈m.cells→aN x:=bK aB aB (gU _ (.inl rfl))
theorem lT (m:Mt):aN m.av:=bU (EZ m)
theorem Sub.aggL {l m:List AV} (h:EA l m):Sub (.agg l) (.agg m):=by
 intro μ F w v hr
 obtain⟨c,rfl,h1,h2,h3⟩:=hr.agg_inv
 refine .agg m c (h1.trans h.len) (fun i y u hy hu=>?_) h3
 have hi:i < l.length:=by rw[h.len];exact (List.getElem?_eq_some_iff.1 hy).1
 exact h.get i _ y (List.getElem?_eq_getElem hi) hy μ F w u (h2 i _ u (List.getElem?_eq_getElem hi) hu)
def Mt.avT (m:Mt) (t:eE):AV:=.agg [.int .i64 m.size,.int .i64 m.mode,iA m.ch t]
theorem X1 {m:Mt} {t:eE}:Sub (m.avT t) m.av:=Sub.aggL ⟨Sub.refl,Sub.refl,Sub.untag,trivial⟩
def UY (n k:Int):Bool:=decide (0≤n)&&decide (n≤k)
def pT (m:Mt):Bool:=m.ch.all (fun n=>UY n 4294967295)&&(UY m.size 1000000000&&UY m.mode 4095&&decide (m.ch.length≤16))
theorem tU (n k:Int):aO Tryz.prog 240 [.int .i64 n,.int .i64 k] (.bool (UY n k)):=by
 intro M
 refine aC aF Tryz.func240 rfl (by decide) (by simp[Tryz.f240]) ?_
 unfold UY
 cases d1:decide (0≤n)
 ·repeat' (first|refine zB rfl d1 ?_|refine zA rfl ?_|refine aA ?_|refine aL rfl ?_)
  exact⟨rfl,_,rfl,rfl,rfl⟩
 ·cases d2:decide (n≤k)
  ·repeat' (first|refine zB rfl (by first|exact d1|exact d2) ?_|refine zA rfl ?_|refine aA ?_|refine aL rfl ?_)
   exact⟨rfl,_,rfl,rfl,rfl⟩
  ·repeat' (first|refine zB rfl (by first|exact d1|exact d2) ?_|refine zA rfl ?_|refine aA ?_|refine aL rfl ?_)
   exact⟨rfl,_,rfl,rfl,rfl⟩
theorem I8 {α:Type} {p:α→Bool} {l:List α} {i:Nat} {x:α} (hx:l[i]? =some x) (hi:(l.take i).all p=true) (h:p x=true):(l.take (i+1)).all p=true:=by
 rw[bM hx,List.all_append,hi]
 simp[h]
theorem a5n {α:Type} {p:α→Bool} {l:List α} {i:Nat} {x:α} (hx:l[i]? =some x) (h:p x=false):l.all p=false:=by
 cases ha:l.all p
 ·rfl
 ·rw[List.all_eq_true] at ha
  rw[ha x (List.mem_of_getElem? hx)] at h
  cases h
theorem MK (m:Mt) (hl:m.ch.length < 1000000):aO Tryz.prog 188 [m.av] (.bool (pT m)):=by
 intro M
 refine aC aF Tryz.func188 rfl (by decide) (by simp[Tryz.f188]) ?_
 have lc:=bA (fun n=>AV.int .i64 n) m.ch
 have k1:=tU m.size 1000000000
 have k2:=tU m.mode 4095
 unfold pT
 repeat' (first|refine zI rfl lc ?_|refine zA rfl ?_|refine aA ?_|refine aL rfl ?_)
 refine bC m.ch.length (fun i f N=>N=M∧((m.ch.take i).all (fun n=>UY n 4294967295)=true)∧f=⟨[(1,.ref m.cells),(6,iA m.ch .none),(7,.int .i64 (m.ch.length:Int)),(8,.int .i64 (i:Int))],[]⟩) (Nat.zero_le _) ⟨rfl,by simp,rfl⟩ (aR.le ?_ (aG.le_refl _)) ?_
 ·skip
  repeat (refine AF.le_cons rfl ?_)
  exact AF.le_nil rfl
 rintro i f N hi ⟨rfl,hinv,rfl⟩
 by_cases h1:i < m.ch.length
 ·have d1:decide ((i:Int) < (m.ch.length:Int))=true:=by simp;omega
  have hx:m.ch[i]? =some m.ch[i]:=List.getElem?_eq_getElem h1
  have fi:=aZ (i:=i) (by omega)
  have ht:=bM hx
  have hm:=List.getElem_mem h1
  generalize m.ch[i]=x at hx ht hm
  have kx:=tU x 4294967295
  cases h:UY x 4294967295
  ·rw[h] at kx
   rw[a5n hx h]
   repeat' (first|refine zB rfl d1 ?_|refine zA rfl ?_|refine aA ?_|refine aL rfl ?_|refine aH rfl kx ?_|refine zX rfl (fB hx) ?_)
   exact⟨rfl,_,rfl,rfl,rfl⟩
  ·rw[h] at kx
   repeat' (first|refine zB rfl d1 ?_|refine zI rfl (by first|exact lc|exact fi) ?_|refine zA rfl ?_|refine aA ?_|refine aL rfl ?_|refine aH rfl kx ?_|refine zX rfl (fB hx) ?_)
   refine⟨h1,_,_,⟨rfl,(I8 hx hinv h),rfl⟩,aR.le ?_ (aG.le_refl _)⟩
   repeat (refine AF.le_cons rfl ?_)
   exact AF.le_nil rfl
 ·have d1:decide ((i:Int) < (m.ch.length:Int))=false:=by simp;omega
  obtain rfl:i=m.ch.length:=by omega
  rw[List.take_length] at hinv
  rw[hinv]
  cases h1:UY m.size 1000000000
  ·rw[h1] at k1
   repeat' (first|refine zB rfl d1 ?_|refine zA rfl ?_|refine aA ?_|refine aL rfl ?_|refine aH rfl k1 ?_)
   exact⟨rfl,_,rfl,rfl,rfl⟩
  ·rw[h1] at k1
   cases h2:UY m.mode 4095
   ·rw[h2] at k2
    repeat' (first|refine zB rfl d1 ?_|refine zA rfl ?_|refine aA ?_|refine aL rfl ?_|refine aH rfl k1 ?_|refine aH rfl k2 ?_)
    exact⟨rfl,_,rfl,rfl,rfl⟩
   ·rw[h2] at k2
    by_cases h3:m.ch.length≤16
    ·have d3:decide ((m.ch.length:Int)≤16)=true:=by simp;omega
     rw[decide_eq_true h3]
     repeat' (first|refine zB rfl (by first|exact d1|exact d3) ?_|refine zI rfl lc ?_|refine zA rfl ?_|refine aA ?_|refine aL rfl ?_|refine aH rfl k1 ?_|refine aH rfl k2 ?_)
     exact⟨rfl,_,rfl,rfl,rfl⟩
    ·have d3:decide ((m.ch.length:Int)≤16)=false:=by simp;omega
     rw[decide_eq_false h3]
     repeat' (first|refine zB rfl (by first|exact d1|exact d3) ?_|refine zI rfl lc ?_|refine zA rfl ?_|refine aA ?_|refine aL rfl ?_|refine aH rfl k1 ?_|refine aH rfl k2 ?_)
     exact⟨rfl,_,rfl,rfl,rfl⟩
theorem a9a {m k:Mt}:m=k↔m.size=k.size∧m.mode=k.mode∧m.ch=k.ch:=by
 obtain⟨a,b,c⟩:=m
 obtain⟨d,e,f⟩:=k
 simp
theorem RW (m k:Mt) (hm:m.ch.length < 1000000) (hk:k.ch.length < 1000000):aO Tryz.prog 50 [m.av,k.av] (.bool (decide (m=k))):=by
 intro M
 refine aC aF Tryz.func50 rfl (by decide) (by simp[Tryz.f50]) ?_
 have ki:=VT m.ch k.ch .none .none (by omega) (by omega)
 cases d1:decide (m.size=k.size)
 ·rw[decide_eq_false (p:=m=k) (by rintro rfl;simp at d1)]
  repeat' (first|refine zB rfl d1 ?_|refine zA rfl ?_|refine aA ?_|refine aL rfl ?_)
  exact⟨rfl,_,rfl,rfl,rfl⟩
 ·cases d2:decide (m.mode=k.mode)
  ·rw[decide_eq_false (p:=m=k) (by rintro rfl;simp at d2)]
   repeat' (first|refine zB rfl (by first|exact d1|exact d2) ?_|refine zA rfl ?_|refine aA ?_|refine aL rfl ?_)
   exact⟨rfl,_,rfl,rfl,rfl⟩
  ·have e:decide (m=k)=decide (m.ch=k.ch):=by
    rw[decide_eq_decide,a9a]
    simp at d1 d2
    simp[d1,d2]
   rw[e]
   repeat' (first|refine zB rfl (by first|exact d1|exact d2) ?_|refine zA rfl ?_|refine aA ?_|refine aL rfl ?_|refine aH rfl ki ?_)
   exact⟨rfl,_,rfl,rfl,rfl⟩
theorem gD {s r:aD} {n:Nat} (h:c5 s=some (n,r)):r.length < s.length∧n < 4294967296:=by
 cases s with
 |nil=>cases h
 |cons c q=>
  by_cases hc:4 < c.toNat∨q.length < c.toNat∨(q.take c.toNat).head?=some 0
  ·rw[j7 hc] at h
   cases h
  ·rw[l6 hc] at h
   cases h
   refine⟨by rw[List.length_drop,List.length_cons];omega,FB 4 _ ?_⟩
   rw[List.length_take]
   omega
def lP (s:aD):Option (List Nat):=
 match h:c5 s with
 |none=>if s=[] then some [] else none
 |some (n,r)=>(lP r).map (n::·)
termination_by s.length
decreasing_by exact (gD h).1
theorem tE:lP []=some []:=by
 rw[lP]
 rfl
theorem oZ {s r:aD} {n:Nat} (h:c5 s=some (n,r)):lP s=(lP r).map (n::·):=by
 rw[lP]
 split
 ·rename_i e
  rw[h] at e
  cases e
 ·rename_i e
  rw[h] at e
  cases e
  rfl
theorem tT {s:aD} (h:c5 s=none) (hs:s≠[]):lP s=none:=by
 rw[lP]
 split
 ·rw[if_neg hs]
 ·rename_i e
  rw[h] at e
  cases e
def nI (l:List Nat):List Int:=l.map fun n:Nat=>(n:Int)
@[simp] theorem aBq (l:List Nat):(nI l).length=l.length:=by simp[nI]
def VC (a b c:Nat) (l:List Nat):Mt×Int:=if c=l.length∧pT ⟨a,b,nI l⟩=true then (⟨a,b,nI l⟩,0) else (cC,30)
def H7:Option (List Nat)→Mt×Int
 |some (a::b::c::l)=>VC a b c l
 |_=>(cC,30)
theorem BH {a b c:Nat} {l:List Nat} (hc:c=l.length) (hm:pT ⟨a,b,nI l⟩=true):H7 (some (a::b::c::l))=(⟨a,b,nI l⟩,0):=if_pos ⟨hc,hm⟩
theorem sA {a b c:Nat} {l:List Nat} (h:c=l.length→pT ⟨a,b,nI l⟩=false):H7 (some (a::b::c::l))=(cC,30):=if_neg (by rintro⟨hc,hm⟩;rw[h hc] at hm;cases hm)
def fS (s:aD):Mt×Int:=H7 (lP s)
def gmA (x:Mt×Int):AV:=.tup [x.1.av,.int .i64 x.2]
theorem QQ (x:Mt×Int):aN (gmA x):=aS (aV (lT _) aB)
def vJ (k:Nat):List AV→List AV→Prop
 |[],[]=>True
 |x::l,y::m=>aI k x y∧vJ k l m
 |_,_=>False
theorem vJ.len {k:Nat}:∀{l m:List AV},vJ k l m→l.length=m.length
 |[],[],_=>rfl
 |_::_,_::_,h=>congrArg (·+1) (vJ.len h.2)
theorem vJ.get {k:Nat}:∀{l m:List AV},vJ k l m→∀(i:Nat) (x y:AV),l[i]? =some x→m[i]? =some y→aI k x y
 |[],[],_,i,_,_,hx,_=>by simp at hx
 |a::l,b::m,h,0,x,y,hx,hy=>by cases hx;cases hy;exact h.1
 |a::l,b::m,h,i+1,x,y,hx,hy=>vJ.get h.2 i x y hx hy
theorem aI.aggL {k:Nat} {l m:List AV} (h:vJ k l m):aI k (.agg l) (.agg m):=by
 intro μ F w v hr
 obtain⟨c,rfl,h1,h2,h3⟩:=hr.agg_inv
 refine .agg m c (h1.trans h.len) (fun i y u hy hu=>?_) h3
 have hi:i < l.length:=by rw[h.len];exact (List.getElem?_eq_some_iff.1 hy).1
 exact h.get i _ y (List.getElem?_eq_getElem hi) hy μ F w u (h2 i _ u (List.getElem?_eq_getElem hi) hu)
theorem sub_zero {k:Nat} {sz:Nat} {t:eE}:aI k (.agg [.int .i64 0,.int .i64 0,.sl sz [] t]) cC.av:=
 aI.aggL ⟨aI.of_closed aB,aI.of_closed aB,aI.nil,trivial⟩
def bY (v:aD):Mt×Bool×Int:=
 match v with
 |[]=>(cC,false,30)
 |c::r=>if c=0∧r=[] then (cC,true,0) else if c=1 then ((fS r).1,false,(fS r).2) else (cC,false,30)
def rmA (x:Mt×Bool×Int):AV:=.tup [x.1.av,.bool x.2.1,.int .i64 x.2.2]
theorem D0 (x:Mt×Bool×Int):aN (rmA x):=aS (bK (lT _) aK aB)
end Go.Proofs.YteliblifgdofgaaGreatDoor
namespace Go.Ab
open Go.RowKit
section
variable {P:Program} {ops:Array Oper} {cls:Nat→fQ} {Q:AX→AF→aG→Prop} {ds:List bJ}
inductive BA where
 |fin (o:List Nat)
 |two (pre:List Nat) (a b:Nat) (p q:BA)
def BA.size:BA→Nat
 |.fin o=>o.length
 |.two pre _ _ p _=>pre.length+(p.size+1)
structure NR (A B:Prop):Prop where
 l:A
 r:B
def zD (K:List (Nat×AV)→aG→Prop) (Q:AX→AF→aG→Prop):AX→AF→aG→Prop
 |.normal,f,M=>K f.t M
 |x,f,M=>Q x f M
def TDW (P:Program) (ops:Array Oper) (cls:Nat→fQ) (Q:AX→AF→aG→Prop) (ds:List bJ):BA→List (Nat×AV)→aG→Prop
 |.fin o,t,M=>DW P ops cls Q ds o t M
 |.two pre a b p q,t,M=>DW P ops cls (zD (fun t M=>NR (DW P ops cls (zD (TDW P ops cls Q ds p) Q) ds [a] t M) (DW P ops cls (zD (TDW P ops cls Q ds q) Q) ds [b] t M)) Q) ds pre t M
def PP (ops:Array Oper) (cls:Nat→fQ):List Nat→Array Bool→Option (Array Bool)
 |[],listed=>some listed
 |i::l,listed=>if (Region.ready .any ops listed).contains i&&FY ops cls i listed then PP ops cls l (listed.setIfInBounds i true) else none
def pOK (ops:Array Oper) (cls:Nat→fQ):BA→Array Bool→Bool
 |.fin o,listed=>dOK ops cls o listed
 |.two pre a b p q,listed=>match PP ops cls pre listed with
  |none=>false
  |some l=>((Region.ready .any ops l).all fun j=>j==a||j==b)&&!(Region.ready .any ops l).isEmpty&&(p.size==q.size)&&pOK ops cls p (l.setIfInBounds a true)&&pOK ops cls q (l.setIfInBounds b true)
theorem FH {i:Nat} {l:List Nat} {t:List (Nat×AV)} {M:aG} {K:Fr→aG→Prop} (h:LH P ops cls Q ds (i::l) t M) (hk:∀t' N,LH P ops cls Q ds l t' N→K (l7 t') N):
  P0 P ops cls (fun v M'=>Q (.panic v) ⟨dD ds,ds⟩ M') i K (l7 t) M:=by
 unfold LH at h
 unfold P0
 cases hoi:ops[i]? with
 |none=>simp only[hoi] at h
 |some oi=>
  simp only[hoi] at h ⊢
  rw[AJ (ds:=ds)]
  split at h
  ·rename_i hw
   rw[hw]
   refine SC.mono (SC.congr h fun y _=>HO t y) fun u N _ hu=>?_
   have:=hk _ N hu
   rw[sQ] at this
   exact this
  ·rename_i hw
   rw[hw]
   have:=hk _ M h
   rw[sQ] at this
   exact this
  ·exact h.elim
theorem DN {K:List (Nat×AV)→aG→Prop} {n:Nat} {l:Array Bool} (hK:∀(t:List (Nat×AV)) (M:aG),K t M→sY P ops cls (fun v M'=>Q (.panic v) ⟨dD ds,ds⟩ M') (fun φ M=>∃t,l7 t=φ∧Q .normal ⟨t,ds⟩ M) n l (l7 t) M):
  ∀(ord:List Nat) (listed:Array Bool) (t:List (Nat×AV)) (M:aG),PP ops cls ord listed=some l→LH P ops cls (zD K Q) ds ord t M→
  sY P ops cls (fun v M'=>Q (.panic v) ⟨dD ds,ds⟩ M') (fun φ M=>∃t,l7 t=φ∧Q .normal ⟨t,ds⟩ M) (ord.length+n) listed (l7 t) M
 |[],listed,t,M,hk,h=>by
  cases hk
  rw[show ([]:List Nat).length+n=n from by simp]
  exact hK t M h
 |i::r,listed,t,M,hk,h=>by
  unfold PP at hk
  split at hk
  case isFalse=>cases hk
  rename_i hc
  simp only[Bool.and_eq_true,List.contains_iff_mem] at hc
  obtain⟨h1,h2⟩:=hc
  have h3:=hk
  unfold FY at h2
  split at h2
  case h_1=>cases h2
  rename_i oi hoi
  simp only[Bool.and_eq_true] at h2
  obtain⟨⟨h4,h5⟩,h6⟩:=h2
  have hall:=List.all_eq_true.1 h6
  unfold a81 at h5
  simp only[Bool.and_eq_true,beq_iff_eq] at h5
  obtain⟨hsz,h5⟩:=h5
  rw[show (i::r).length+n=(r.length+n)+1 from by simp;omega]
  refine CV hoi (R:=fun j=>(VX ops i listed).getD j false) ?_ (r.length+n) listed (l7 t) M ?_ h1 ?_ ?_
  ·intro j oj hji hoj hpre
   have hj:j < ops.size:=(Array.getElem?_eq_some_iff.1 hoj).1
   have:=(List.all_eq_true.1 h4) j (List.mem_range.2 hj)
   simp only[Bool.or_eq_true,beq_iff_eq,Bool.not_eq_true'] at this
   rcases this with (hh|hh)|hh
   ·exact absurd hh hji
   ·exact hh
   ·exfalso
    rw[hoj] at hh
    simp only[Option.map_some,Option.getD_some] at hh
    have ht:(oj.after.all fun e=>!Region.binds .any e||(VX ops i listed).getD e.on false)=true:=by
     rw[Array.all_eq_true_iff_forall_mem]
     intro e he
     cases hb:Region.binds .any e with
     |false=>rfl
     |true=>simpa using hpre e he hb
    rw[ht] at hh
    cases hh
  ·intro j hj
   have hlt:j < ops.size:=by
    rcases Nat.lt_or_ge j ops.size with h|h
    ·exact h
    ·rw[Array.getD_eq_getD_getElem?,Array.getElem?_eq_none (by omega)] at hj
     cases hj
   have:=(List.all_eq_true.1 h5) j (List.mem_range.2 hlt)
   simp only[hj,Bool.not_true,Bool.false_or] at this
   exact this
  ·intro j oj hoj hji hR hun
   have hj:j < ops.size:=(Array.getElem?_eq_some_iff.1 hoj).1
   have:=hall j (List.mem_range.2 hj)
   simp only[hR,hun,hoj,Bool.not_true,Bool.or_false,Bool.or_eq_true,beq_iff_eq,Bool.and_eq_true] at this
   rcases this with hh|hh
   ·first|exact absurd hh hji|(rcases hh with hh|hh<;>first|exact absurd hh hji|cases hh)
   ·exact hh
  ·exact FH (Q:=zD K Q) h fun t' N ht=>DN hK r _ t' N h3 ht
theorem uN:∀(p:BA) (listed:Array Bool) (t:List (Nat×AV)) (M:aG),pOK ops cls p listed=true→TDW P ops cls Q ds p t M→
  sY P ops cls (fun v M'=>Q (.panic v) ⟨dD ds,ds⟩ M') (fun φ M=>∃t,l7 t=φ∧Q .normal ⟨t,ds⟩ M) p.size listed (l7 t) M
 |.fin o,listed,t,M,hk,h=>sD o listed t M hk h.run
 |.two pre a b p q,listed,t,M,hk,h=>by
  unfold pOK at hk
  split at hk
  case h_1=>cases hk
  rename_i l hl
  simp only[Bool.and_eq_true,List.all_eq_true,Bool.or_eq_true,beq_iff_eq,Bool.not_eq_true'] at hk
  obtain⟨⟨⟨⟨h1,h2⟩,h0⟩,h3⟩,h4⟩:=hk
  refine DN (n:=p.size+1) (l:=l) ?_ pre listed t M hl h.run
  rintro t M ⟨g1,g2⟩
  refine⟨fun he=>(by rw[he] at h2;cases h2),fun j hj=>?_⟩
  rcases h1 j hj with rfl|rfl
  ·exact FH (Q:=zD (TDW P ops cls Q ds p) Q) g1.run fun t' N ht=>uN p _ t' N h3 ht
  ·rw[h0]
   exact FH (Q:=zD (TDW P ops cls Q ds q) Q) g2.run fun t' N ht=>uN q _ t' N h4 ht
theorem sX {r:Option Nat} {n id:Nat} {t:List (Nat×AV)} {M:aG} (hm:P.follows .mixedOrders=true) (p:BA) (cl:List fQ) (hd0:(ops.toList.all fun o=>jB ds o n)=true) (hl:p.size=ops.size)
  (hk:pOK ops (fun i=>cl.getD i .E) p (Array.replicate ops.size false)=true) (h:TDW P ops (fun i=>cl.getD i .E) Q ds p t M):W r P n (.region id ops true) Q ⟨t,ds⟩ M:=by
 have hd:(ops.all fun o=>jB ds o n)=true:=by rw[←Array.all_toList];exact hd0
 refine⟨fun μ F w a hg hr=>?_⟩
 refine wpIn_region_any hm ?_
 have hb:Below w.heap.size w {w with drawn:=w.drawn+1}:=⟨rfl,rfl,rfl,Nat.le_refl _,fun _ _=>rfl⟩
 have hev:=dQ.of_below μ hb
 have hany:=uN p _ t M hk h
 rw[hl] at hany
 have hrf:s6 μ F w n (l7 t) ds a:=⟨hr.size,hr.tmps,hr.defs,hr.kept⟩
 refine C0 (r:=r) (ds:=ds) hd (F:=F) ops.size _ (l7 t) M μ {w with drawn:=w.drawn+1} a (hg.below hb) (hrf.evo hev) ?_ ?_ hany
 ·rintro μ' φ' M' w' a' e1 e2 e3 ⟨t',rfl,hq⟩
  exact⟨μ',⟨t',ds⟩,M',.normal,hev.trans e1,e2,⟨e3.size,e3.tmps,e3.defs,e3.kept⟩,trivial,hq⟩
 ·intro μ' φ' M' w' a' v u e1 e2 e3 e4 hq
  exact⟨μ',⟨dD ds,ds⟩,M',.panic u,hev.trans e1,e2,⟨e3.size,rN e3.kept,e3.defs,e3.kept⟩,⟨v,rfl,e4⟩,hq⟩
end
end Go.Ab
namespace Go.Proofs.YteliblifgdofgaaGreatDoor
open Go.Ab
def kN (e:Int):AV:=.iface 33 (.int .i64 e)
theorem cI (e:Int):aN (kN e):=mA aB
def kW (s:aD) (e:cH) (d:List AV):Prop:=
 match c5 s with
 |some (n,r)=>e=.ret (.int .i64 (n:Int))∧d=[.str r]
 |none=>e=.pan (kN 30)∧d=[.str s]
theorem a44 (s:aD) (hs:s.length < 1000000):aQ Tryz.prog 263 [.ptr 0 0] ⟨1,[(0,.cells [.str s])]⟩ (fun e N=>N.next=1∧∃d,N.get 0=some (.cells d)∧kW s e d):=by
 refine aC aF Tryz.func263 rfl (by decide) (by simp[Tryz.f263]) ?_
 have kg:=jS s (by omega)
 unfold kW
 cases hg:c5 s with
 |none=>
  rw[hg] at kg
  repeat' (first|refine zA rfl ?_|refine aA ?_|refine aL rfl ?_|refine aH rfl kg ?_)
  refine dR rfl rfl rfl rfl rfl ?_
  exact⟨rfl,rfl,_,rfl,rfl,rfl⟩
 |some p=>
  obtain⟨n,r⟩:=p
  rw[hg] at kg
  repeat' (first|refine zA rfl ?_|refine aA ?_|refine aL rfl ?_|refine aH rfl kg ?_)
  exact⟨rfl,_,rfl,rfl,_,rfl,rfl,rfl⟩
theorem BU {M:aG} {id:Nat} {s:aD} (hM:M.get id=some (.cells [.str s])) (hlt:id < M.next) (hs:s.length < 1000000):
  aQ Tryz.prog 263 [.ptr id 0] M fun e N=>∃d,kW s e d∧N=M.set id (.cells d):=by
 refine aQ.frame1 id hM hlt (aX aP) (a44 s hs) ⟨kP.ptr rfl,trivial⟩ ?_
 intro e d h
 unfold kW at h
 cases hg:c5 s with
 |none=>
  rw[hg] at h
  obtain⟨rfl,rfl⟩:=h
  refine⟨cI 30,aX aP,_,?_,rfl⟩
  unfold kW
  rw[hg]
  exact⟨rfl,rfl⟩
 |some p=>
  obtain⟨n,r⟩:=p
  rw[hg] at h
  obtain⟨rfl,rfl⟩:=h
  refine⟨aB,aX aP,_,?_,rfl⟩
  unfold kW
  rw[hg]
  exact⟨rfl,rfl⟩
theorem kV {M:aG} {id:Nat} {s r:aD} {n:Nat} (hg:c5 s=some (n,r)) (hM:M.get id=some (.cells [.str s])) (hlt:id < M.next) (hs:s.length < 1000000):
  aQ Tryz.prog 263 [.ptr id 0] M fun e N=>e=.ret (.int .i64 (n:Int))∧N=M.set id (.cells [.str r]):=by
 refine (BU hM hlt hs).mono ?_
 rintro e N ⟨d,h,rfl⟩
 unfold kW at h
 rw[hg] at h
 obtain⟨rfl,rfl⟩:=h
 exact⟨rfl,rfl⟩
theorem kX {M:aG} {id:Nat} {s:aD} (hg:c5 s=none) (hM:M.get id=some (.cells [.str s])) (hlt:id < M.next) (hs:s.length < 1000000):
  aQ Tryz.prog 263 [.ptr id 0] M fun e N=>e=.pan (kN 30)∧N=M.set id (.cells [.str s]):=by
 refine (BU hM hlt hs).mono ?_
 rintro e N ⟨d,h,rfl⟩
 unfold kW at h
 rw[hg] at h
 obtain⟨rfl,rfl⟩:=h
 exact⟨rfl,rfl⟩
def At (s:aD) (l:List Nat) (q:aD):Prop:=lP s=(lP q).map (l++·)
theorem a7h (s:aD):At s [] s:=by
 unfold At
 cases lP s<;>rfl
theorem x7 {s q r:aD} {l:List Nat} {n:Nat} (h:At s l q) (hg:c5 q=some (n,r)):At s (l++[n]) r:=by
 unfold At at*
 rw[h,oZ hg,Option.map_map]
 congr 1
 funext x
 simp
theorem ST {s q:aD} {l:List Nat} (h:At s l q) (hg:c5 q=none) (hl:∀a b c m,l=a::b::c::m→c≠m.length):fS s=(cC,30):=by
 unfold fS
 unfold At at h
 rw[h]
 by_cases hq:q=[]
 ·subst hq
  rw[tE]
  match l,hl with
  |[],_=>rfl
  |[_],_=>rfl
  |[_,_],_=>rfl
  |a::b::c::m,hl=>
   simp only[Option.map_some,List.append_nil]
   exact sA fun e=>absurd e (hl a b c m rfl)
 ·rw[tT hg hq]
  rfl
theorem QM {s q:aD} {a b c:Nat} (h:At s [a,b,c] q) (hc:16 < c):fS s=(cC,30):=by
 unfold fS
 unfold At at h
 rw[h]
 cases lP q with
 |none=>rfl
 |some m=>
  refine sA fun e=>?_
  unfold pT
  have:¬m.length≤16:=by
   have e':c=m.length:=e
   omega
  simp[this]
theorem QG {s q:aD} {a b c:Nat} {m:List Nat} (h:At s (a::b::c::m) q) (hc:c=m.length) (hq:q≠[]):fS s=(cC,30):=by
 unfold fS
 unfold At at h
 rw[h]
 cases hn:lP q with
 |none=>rfl
 |some k=>
  have hk:k≠[]:=by
   rintro rfl
   cases hg:c5 q with
   |none=>rw[tT hg hq] at hn;cases hn
   |some p=>
    obtain⟨n,r⟩:=p
    rw[oZ hg] at hn
    cases hr:lP r<;>rw[hr] at hn<;>cases hn
  have hpos:=List.length_pos_iff.2 hk
  refine sA fun e=>?_
  have e':c=(m++k).length:=e
  rw[List.length_append] at e'
  omega
theorem YW {s:aD} {a b c:Nat} {m:List Nat} (h:At s (a::b::c::m) []):fS s=H7 (some (a::b::c::m)):=by
 unfold fS
 unfold At at h
 rw[h,tE]
 simp
def a4w:List AV:=[.int .i64 0,.int .i64 0,.sl 0 [] .full]
def TP (nx:Nat) (x y z:AV) (n:Int):aG:=⟨nx,[(0,.cells [x,y,z]),(1,.cells [.int .i64 n])]⟩
theorem a5i (nx:Nat) (x y z:AV) (n e:Int):bF Tryz.prog 262 [.ptr 0 0,.ptr 1 0] (.pan (kN e)) (TP nx x y z n) (fun m' M'=>m'=.ret∧M'.get 0=some (.cells a4w)∧M'.get 1=some (.cells [.int .i64 e])):=by
 refine bX aF Tryz.func262 rfl (by decide) rfl rfl rfl rfl rfl (by simp[Tryz.f262]) ?_
 refine c4 aF rfl rfl rfl rfl rfl ?_
 repeat' (first|refine zA rfl ?_|refine aA ?_|refine aL rfl ?_)
 exact⟨rfl,⟨_,rfl⟩,rfl,rfl⟩
theorem aAn (nx:Nat) (x y z:AV) (n:Int):bF Tryz.prog 262 [.ptr 0 0,.ptr 1 0] .ret (TP nx x y z n) (fun m' M'=>m'=.ret∧M'.get 0=some (.cells [x,y,z])∧M'.get 1=some (.cells [.int .i64 n])):=by
 refine bX aF Tryz.func262 rfl (by decide) rfl rfl rfl rfl rfl (by simp[Tryz.f262]) ?_
 refine c4 aF rfl rfl rfl rfl rfl ?_
 repeat' (first|refine zA rfl ?_|refine aA ?_|refine aL rfl ?_)
 exact⟨rfl,⟨_,rfl⟩,rfl,rfl⟩
def getD:bJ:={f:=.func 262,cap:=[.ptr 0 0,.ptr 1 0],args:=[],keep:=[(2,.ptr 0 0),(3,.ptr 1 0)]}
abbrev a6g (z:Mt×Int):cH→aG→Prop:=fun e _=>∃x,e=.ret x∧aI 0 x (gmA z)
theorem OP {M:aG} {x y z:AV} {n:Int} {t:List (Nat×AV)} (h2:AF.get ⟨t,[]⟩ 2=.ptr 0 0) (h3:AF.get ⟨t,[]⟩ 3=.ptr 1 0) (g0:M.get 0=some (.cells [x,y,z])) (g1:M.get 1=some (.cells [.int .i64 n])):
  i5 iR M ⟨t,[]⟩ Tryz.f199.results=some (.tup [.agg [x,y,z],.int .i64 n]):=by
 have a1:cX M iR 51 (.ptr 0 0)=some (.agg [x,y,z]):=by
  simp only[cX,g0]
  rfl
 have a2:cX M iR 33 (.ptr 1 0)=some (.int .i64 n):=by
  simp only[cX,g1]
  rfl
 show i5 iR M ⟨t,[]⟩ #[.cell 2 51,.cell 3 33]=_
 simp only[i5,t7,mP,h2,h3,a1,a2]
theorem wT {M:aG} {x y z:AV} {n:Int} {t:List (Nat×AV)} {s:aD} (hs:fS s=(cC,30)) (h:(TP M.next x y z n).le M) (h2:AF.get ⟨t,[]⟩ 2=.ptr 0 0) (h3:AF.get ⟨t,[]⟩ 3=.ptr 1 0):eF Tryz.prog iR Tryz.f199 ⟨t,[]⟩ (a6g (fS s)) [getD] (.pan (kN 30)) M:=by
 rw[hs]
 refine⟨rfl,262,rfl,bF.le h (bF.mono (a5i M.next x y z n 30) ?_)⟩
 rintro m' M' ⟨rfl,g0,g1⟩
 exact⟨_,OP h2 h3 g0 g1,_,rfl,aI.tup2 sub_zero (aI.of_closed aB)⟩
theorem a1s {M:aG} {m:Mt} {tg:eE} {t:List (Nat×AV)} {s:aD} (hs:fS s=(m,0)) (h:(TP M.next (.int .i64 m.size) (.int .i64 m.mode) (iA m.ch tg) 0).le M) (h2:AF.get ⟨t,[]⟩ 2=.ptr 0 0) (h3:AF.get ⟨t,[]⟩ 3=.ptr 1 0):eF Tryz.prog iR Tryz.f199 ⟨t,[]⟩ (a6g (fS s)) [getD] .ret M:=by
 rw[hs]
 refine⟨rfl,262,rfl,bF.le h (bF.mono (aAn M.next _ _ _ 0) ?_)⟩
 rintro m' M' ⟨rfl,g0,g1⟩
 exact⟨_,OP h2 h3 g0 g1,_,rfl,aI.tup2 (aI.pre (X1 (m:=m) (t:=tg)) (aI.of_closed (lT _))) (aI.of_closed aB)⟩
def GN (a b:Nat) (m:List Nat) (q:aD) (g:Nat):aG:=⟨4,[(0,.cells [.int .i64 (a:Int),.int .i64 (b:Int),iA (nI m) (.tok 3 g)]),(1,.cells [.int .i64 0]),(2,.cells [.str q]),(3,.spare g)]⟩
def GF (c i:Nat):AF:=⟨[(2,.ptr 0 0),(3,.ptr 1 0),(4,.ptr 2 0),(5,.fn (.func 263) [.ptr 2 0] []),(6,.int .i64 (c:Int)),(24,.int .i64 (c:Int)),(25,.int .i64 (i:Int))],[getD]⟩
theorem a2x (s:aD) (hs:s.length < 1000000):aO Tryz.prog 199 [.str s] (gmA (fS s)):=by
 refine aU (aX aP) (QQ _) ?_
 refine fC aF Tryz.func199 rfl (by decide) (by simp[Tryz.f199]) ?_
 repeat' (first|refine zA rfl ?_|refine aA ?_|refine aL rfl ?_)
 refine eB ?_
 refine GG rfl rfl lZ ?_
 refine eQ rfl rfl rfl rfl [(2,.ptr 0 0),(3,.ptr 1 0)] ?_ ?_
 ·intro p hp
  simp only[List.mem_cons,List.not_mem_nil,or_false] at hp
  rcases hp with rfl|rfl<;>rfl
 refine i7 ?_
 refine W.le (g:=⟨[(0,.str s),(2,.ptr 0 0),(3,.ptr 1 0)],[getD]⟩) (N:=⟨2,[(0,.cells a4w),(1,.cells [.int .i64 0])]⟩) ?_ ?_ ?_
 ·repeat (refine AF.le_cons rfl ?_)
  exact AF.le_nil rfl
 ·exact aG.le_cons rfl (aG.le_cons rfl (aG.le_nil rfl))
 have stop:∀{q:aD} {l:List Nat} {M:aG} {x y z:AV} {n:Int} {t:List (Nat×AV)},At s l q→c5 q=none→(∀a b c m,l=a::b::c::m→c≠m.length)→(TP M.next x y z n).le M→AF.get ⟨t,[]⟩ 2=.ptr 0 0→AF.get ⟨t,[]⟩ 3=.ptr 1 0→eF Tryz.prog iR Tryz.f199 ⟨t,[]⟩ (a6g (fS s)) [getD] (.pan (kN 30)) M:=
  fun h hg hl=>wT (ST h hg hl)
 have a0:=a7h s
 cases g0:c5 s with
 |none=>
  repeat' (first|refine iT 10 aF rfl ?_|refine zA rfl ?_|refine aA ?_|refine aL rfl ?_)
  refine bS rfl rfl (kX g0 rfl (Nat.le_refl _) hs) ?_ ?_
  ·rintro u N ⟨h,_⟩
   cases h
  ·rintro u N ⟨h,rfl⟩
   cases h
   exact stop a0 g0 (by rintro a b c m h;cases h) (aG.le_cons rfl (aG.le_cons rfl (aG.le_nil rfl))) rfl rfl
 |some p=>
  obtain⟨a,r0⟩:=p
  have a1:=x7 a0 g0
  have l0:=(gD g0).1
  repeat' (first|refine iT 10 aF rfl ?_|refine zA rfl ?_|refine aA ?_|refine aL rfl ?_)
  refine bS rfl rfl (kV g0 rfl (Nat.le_refl _) hs) ?_ ?_
  rotate_left
  ·rintro u N ⟨h,_⟩
   cases h
  rintro u N ⟨h,rfl⟩
  cases h
  cases g1:c5 r0 with
  |none=>
   repeat' (first|refine zA rfl ?_|refine aA ?_|refine aL rfl ?_)
   refine bS rfl rfl (kX g1 rfl (Nat.le_refl _) (by omega)) ?_ ?_
   ·rintro u N ⟨h,_⟩
    cases h
   ·rintro u N ⟨h,rfl⟩
    cases h
    exact stop a1 g1 (by rintro a b c m h;cases h) (aG.le_cons rfl (aG.le_cons rfl (aG.le_nil rfl))) rfl rfl
  |some p=>
   obtain⟨b,r1⟩:=p
   have a2:=x7 a1 g1
   have l1:=(gD g1).1
   repeat' (first|refine zA rfl ?_|refine aA ?_|refine aL rfl ?_)
   refine bS rfl rfl (kV g1 rfl (Nat.le_refl _) (by omega)) ?_ ?_
   rotate_left
   ·rintro u N ⟨h,_⟩
    cases h
   rintro u N ⟨h,rfl⟩
   cases h
   cases g2:c5 r1 with
   |none=>
    repeat' (first|refine zA rfl ?_|refine aA ?_|refine aL rfl ?_)
    refine bS rfl rfl (kX g2 rfl (Nat.le_refl _) (by omega)) ?_ ?_
    ·rintro u N ⟨h,_⟩
     cases h
    ·rintro u N ⟨h,rfl⟩
     cases h
     exact stop a2 g2 (by rintro a b c m h;cases h) (aG.le_cons rfl (aG.le_cons rfl (aG.le_nil rfl))) rfl rfl
   |some p=>
    obtain⟨c,r2⟩:=p
    have a3:=x7 a2 g2
    have l2:=(gD g2).1
    repeat' (first|refine zA rfl ?_|refine aA ?_|refine aL rfl ?_)
    refine bS rfl rfl (kV g2 rfl (Nat.le_refl _) (by omega)) ?_ ?_
    rotate_left
    ·rintro u N ⟨h,_⟩
     cases h
    rintro u N ⟨h,rfl⟩
    cases h
    by_cases hc:16 < c
    ·have d1:decide ((16:Int) < (c:Int))=true:=by simp;omega
     repeat' (first|refine zB rfl d1 ?_|refine zA rfl ?_|refine aA ?_|refine aL rfl ?_)
     refine dR rfl rfl rfl rfl rfl ?_
     exact wT (QM a3 hc) (aG.le_cons rfl (aG.le_cons rfl (aG.le_nil rfl))) rfl rfl
    ·have d1:decide ((16:Int) < (c:Int))=false:=by simp;omega
     repeat' (first|refine zB rfl d1 ?_|refine zA rfl ?_|refine aA ?_|refine aL rfl ?_)
     refine bC c (fun i f N=>∃m q g,m.length=i∧At s ([a,b,c]++m) q∧q.length≤s.length∧N=GN a b m q g∧f=GF c i) (Nat.zero_le _) ⟨[],r2,0,rfl,a3,by omega,rfl,rfl⟩ ((aR.tokM 0 2 rfl rfl (sz':=1) (.inr rfl)).trans (aR.le ?_ (aG.le_cons rfl (aG.le_cons rfl (aG.le_cons rfl (aG.le_cons rfl (aG.le_nil rfl))))))) ?_
     ·unfold GF
      repeat (refine AF.le_cons rfl ?_)
      exact AF.le_nil rfl
     rintro i f N hi ⟨m,q,g,rfl,am,lq,rfl,rfl⟩
     unfold GF
     by_cases h1:m.length < c
     ·have d2:decide ((m.length:Int) < (c:Int))=true:=by simp;omega
      have fi:=aZ (i:=m.length) (by omega)
      have lq2:q.length < 1000000:=by omega
      have hml:m.length < 1000000:=by omega
      cases hg:c5 q with
      |none=>
       repeat' (first|refine zB rfl d2 ?_|refine zA rfl ?_|refine aA ?_|refine aL rfl ?_|refine sX mixed (.two [2] 0 3 (.two [] 1 3 (.fin [3,4,5,6,7]) (.fin [4,1,5,6,7])) (.fin [4,0,1,5,6,7])) [.R,.R,.P,.E,.P,.E,.R,.E] rfl rfl (by kernel_rfl) ?_|refine NR.mk ?_ ?_)
       all_goals
        refine bS rfl rfl (kX hg rfl (Nat.le_succ _) lq2) ?_ ?_
        ·rintro u N ⟨h,_⟩
         cases h
        ·rintro u N ⟨h,rfl⟩
         cases h
         exact stop am hg (by rintro a' b' c' m' h;simp at h;obtain⟨_,_,rfl,rfl⟩:=h;omega) (aG.le_cons rfl (aG.le_cons rfl (aG.le_nil rfl))) rfl rfl
      |some p=>
       obtain⟨n,r⟩:=p
       have am2:=x7 am hg
       have lr:=(gD hg).1
       have eT:AV.sl 1 ((nI (m++[n])).map fun n=>AV.int .i64 n) (.tok 3 (g+1))=.sl 1 (((nI m).map fun n=>AV.int .i64 n)++[.int .i64 (n:Int)]) (.tok 3 (g+1)):=by simp[nI]
       repeat' (first|refine zB rfl d2 ?_|refine zA rfl ?_|refine aA ?_|refine aL rfl ?_|refine sX mixed (.two [2] 0 3 (.two [] 1 3 (.fin [3,4,5,6,7]) (.fin [4,1,5,6,7])) (.fin [4,0,1,5,6,7])) [.R,.R,.P,.E,.P,.E,.R,.E] rfl rfl (by kernel_rfl) ?_|refine NR.mk ?_ ?_)
       all_goals
        refine bS rfl rfl (kV hg rfl (Nat.le_succ _) lq2) ?_ ?_
        rotate_left
        ·rintro u N ⟨h,_⟩
         cases h
        rintro u N ⟨h,rfl⟩
        cases h
        repeat' (first|refine zI rfl fi ?_|refine zA rfl ?_|refine aA ?_|refine aL rfl ?_|refine zR rfl ?_|refine zP rfl rfl ?_)
        refine⟨h1,_,_,⟨m++[n],r,g+1,by simp,(by simpa using am2),by omega,rfl,rfl⟩,aR.le ?_ ?_⟩
        ·skip
         repeat (refine AF.le_cons rfl ?_)
         exact AF.le_nil rfl
        ·unfold GN iA
         rw[eT]
         exact aG.le_cons rfl (aG.le_cons rfl (aG.le_cons rfl (aG.le_cons rfl (aG.le_nil rfl))))
     ·have d2:decide ((m.length:Int) < (c:Int))=false:=by simp;omega
      have hml:m.length=c:=by omega
      by_cases hq:q=[]
      ·subst hq
       have d3:(!(([]:aD)==[]))=false:=rfl
       have km:=(MK ⟨a,b,nI m⟩ (by simp;omega)).sub (args:=[Mt.avT ⟨a,b,nI m⟩ (.tok 3 g)]) ⟨X1,trivial⟩
       have he:=YW am
       cases hm:pT ⟨a,b,nI m⟩
       ·rw[hm] at km
        repeat' (first|refine zB rfl (by first|exact d2|exact d3) ?_|refine zA rfl ?_|refine aA ?_|refine aL rfl ?_|refine aH rfl km ?_)
        refine dR rfl rfl rfl rfl rfl ?_
        exact wT (he.trans (sA (fun _=>hm))) (aG.le_cons rfl (aG.le_cons rfl (aG.le_nil rfl))) rfl rfl
       ·rw[hm] at km
        repeat' (first|refine zB rfl (by first|exact d2|exact d3) ?_|refine zA rfl ?_|refine aA ?_|refine aL rfl ?_|refine aH rfl km ?_)
        exact a1s (tg:=.tok 3 g) (he.trans (BH hml.symm hm)) (aG.le_cons rfl (aG.le_cons rfl (aG.le_nil rfl))) rfl rfl
      ·have d3:(!(q==[]))=true:=by simp[hq]
       repeat' (first|refine zB rfl (by first|exact d2|exact d3) ?_|refine zA rfl ?_|refine aA ?_|refine aL rfl ?_)
       refine dR rfl rfl rfl rfl rfl ?_
       exact wT (QG am hml.symm hq) (aG.le_cons rfl (aG.le_cons rfl (aG.le_nil rfl))) rfl rfl
def jN (s p:aD):Bool:=decide (p.length≤s.length)&&(s.take p.length==p)
theorem pV (s p:aD):aO Tryz.prog 260 [.str s,.str p] (.bool (jN s p)):=by
 intro M
 refine aC aF Tryz.func260 rfl (by decide) (by simp[Tryz.f260]) ?_
 unfold jN
 by_cases h:p.length≤s.length
 ·have d1:decide ((p.length:Int)≤(s.length:Int))=true:=by simp;omega
  have e1:decide (p.length≤s.length)=true:=by simp[h]
  rw[e1]
  repeat' (first|refine zB rfl d1 ?_|refine zA rfl ?_|refine aA ?_|refine aL rfl ?_)
  refine DT aF rfl rfl rfl rfl rfl rfl rfl rfl rfl (Int.le_refl 0) (Int.natCast_nonneg _) (by omega) ?_
  repeat' (first|refine zA rfl ?_|refine aA ?_|refine aL rfl ?_)
  exact⟨rfl,_,rfl,yD (by simp),rfl⟩
 ·have d1:decide ((p.length:Int)≤(s.length:Int))=false:=by simp;omega
  have e1:decide (p.length≤s.length)=false:=by simp[h]
  rw[e1]
  repeat' (first|refine zB rfl d1 ?_|refine zA rfl ?_|refine aA ?_|refine aL rfl ?_)
  exact⟨rfl,_,rfl,rfl,rfl⟩
theorem FE (s p:aD):aO Tryz.prog 197 [.str s,.str p] (.bool (jN s p)):=by
 intro M
 refine aC aF Tryz.func197 rfl (by decide) (by simp[Tryz.f197]) ?_
 repeat' (first|refine zA rfl ?_|refine aA ?_|refine aL rfl ?_)
 refine fG rfl rfl rfl rfl rfl (pV s p) ?_
 repeat' (first|refine zA rfl ?_|refine aA ?_|refine aL rfl ?_)
 exact⟨rfl,_,rfl,rfl,rfl⟩
def LM (s p:aD):AV:=.tup [.str (if jN s p=true then s.drop p.length else s),.bool (jN s p)]
theorem NL (s p:aD):aO Tryz.prog 261 [.str s,.str p] (LM s p):=by
 intro M
 refine aC aF Tryz.func261 rfl (by decide) (by simp[Tryz.f261]) ?_
 have kp:=pV s p
 unfold LM
 cases h:jN s p
 ·rw[h] at kp
  rw[if_neg (by simp)]
  repeat' (first|refine zA rfl ?_|refine aA ?_|refine aL rfl ?_|refine aH rfl kp ?_)
  exact⟨rfl,_,rfl,rfl,rfl⟩
 ·rw[h] at kp
  rw[if_pos rfl]
  have hl:p.length≤s.length:=by
   simp[jN] at h
   exact h.1
  have s1:(0:Int)≤(p.length:Int)∧(p.length:Int)≤(s.length:Int)∧(s.length:Int)≤(s.length:Int)∧(s.take (s.length:Int).toNat).drop (p.length:Int).toNat=s.drop p.length:=by
   refine⟨by omega,by omega,Int.le_refl _,?_⟩
   rw[Int.toNat_natCast,Int.toNat_natCast,List.take_length]
  repeat' (first|refine zA rfl ?_|refine aA ?_|refine aL rfl ?_|refine aH rfl kp ?_|refine mJ aF rfl (s1) ?_)
  exact⟨rfl,_,rfl,rfl,rfl⟩
theorem a8e (s p:aD):aO Tryz.prog 198 [.str s,.str p] (LM s p):=by
 intro M
 refine aC aF Tryz.func198 rfl (by decide) (by simp[Tryz.f198]) ?_
 have kp:=NL s p
 unfold LM at kp ⊢
 repeat' (first|refine zA rfl ?_|refine aA ?_|refine aL rfl ?_|refine aH rfl kp ?_)
 exact⟨rfl,_,rfl,rfl,rfl⟩
theorem wP (v:aD) (hv:v.length < 1000000):aO Tryz.prog 161 [.str v] (rmA (bY v)):=by
 refine aU (aX aP) (D0 _) ?_
 refine aC aF Tryz.func161 rfl (by decide) (by simp[Tryz.f161]) ?_
 have kc:=a8e v [1]
 cases v with
 |nil=>
  have d1:(([]:aD)==[0])=false:=rfl
  unfold LM at kc
  repeat' (first|refine zB rfl d1 ?_|refine zA rfl ?_|refine aA ?_|refine aL rfl ?_|refine aH rfl kc ?_)
  exact⟨rfl,_,rfl,_,rfl,aI.tup3 sub_zero (aI.of_closed aK) (aI.of_closed aB)⟩
 |cons c r=>
  by_cases h0:c=0∧r=[]
  ·obtain⟨rfl,rfl⟩:=h0
   have d1:(([0]:aD)==[0])=true:=rfl
   repeat' (first|refine zB rfl d1 ?_|refine zA rfl ?_|refine aA ?_|refine aL rfl ?_)
   exact⟨rfl,_,rfl,_,rfl,aI.tup3 sub_zero (aI.of_closed aK) (aI.of_closed aB)⟩
  ·have d1:((c::r:aD)==[0])=false:=by
    rw[beq_eq_false_iff_ne]
    intro h
    cases h
    exact h0 ⟨rfl,rfl⟩
   by_cases h1:c=1
   ·subst h1
    have e:bY (1::r)=((fS r).1,false,(fS r).2):=by
     show (if (1:UInt8)=0∧r=[] then (cC,true,(0:Int)) else if (1:UInt8)=1 then ((fS r).1,false,(fS r).2) else (cC,false,30))=_
     rw[if_neg h0,if_pos rfl]
    have kr:=a2x r (by simp at hv;omega)
    have hp:jN (1::r) [1]=true:=by simp[jN]
    unfold LM at kc
    rw[if_pos hp,hp] at kc
    rw[e]
    generalize fS r=x at kr
    obtain⟨m,e⟩:=x
    repeat' (first|refine zB rfl d1 ?_|refine zA rfl ?_|refine aA ?_|refine aL rfl ?_|refine aH rfl kc ?_|refine aH rfl kr ?_)
    exact⟨rfl,_,rfl,_,rfl,aI.of_closed (D0 (m,false,e))⟩
   ·have hp:jN (c::r) [1]=false:=by simp[jN,h1]
    unfold LM at kc
    rw[if_neg (by rw[hp];simp),hp] at kc
    have e:bY (c::r)=(cC,false,30):=(if_neg h0).trans (if_neg h1)
    rw[e]
    repeat' (first|refine zB rfl d1 ?_|refine zA rfl ?_|refine aA ?_|refine aL rfl ?_|refine aH rfl kc ?_)
    exact⟨rfl,_,rfl,_,rfl,aI.tup3 sub_zero (aI.of_closed aK) (aI.of_closed aB)⟩
end Go.Proofs.YteliblifgdofgaaGreatDoor
