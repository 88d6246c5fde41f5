/- Parts of the proof, one behind the other. No further condition. -/
import Derived.Test.YthnhbmlefiafaaaGreatDoorK10
set_option linter.unusedVariables false
set_option linter.unusedSimpArgs false
set_option maxRecDepth 100000
set_option maxHeartbeats 8000000
namespace Go.Proofs.YthnhbmlefiafaaaGreatDoor
open Go.Ab
def bV:aG→Option (Nat×aG)
 |[]=>none
 |c::r=>if 4 < c.toNat∨r.length < c.toNat∨(r.take c.toNat).head?=some 0 then none else some (o8 (r.take c.toNat),r.drop c.toNat)
theorem fP {c:UInt8} {r:aG} (h:4 < c.toNat∨r.length < c.toNat∨(r.take c.toNat).head?=some 0):bV (c::r)=none:=if_pos h
theorem jJ {c:UInt8} {r:aG} (h:¬(4 < c.toNat∨r.length < c.toNat∨(r.take c.toNat).head?=some 0)):bV (c::r)=some (o8 (r.take c.toNat),r.drop c.toNat):=if_neg h
def gnA:Option (Nat×aG)→AV
 |some (n,r)=>.tup [.int .i64 (n:Int),.str r,.bool true]
 |none=>.tup [.int .i64 0,.str [],.bool false]
theorem kG (s:aG) (hs:s.length < 4611686018427387904):aN Tryz.prog 35 [.str s] (gnA (bV s)):=by
 intro M
 refine aC aF Tryz.func35 rfl (by decide) (by simp[Tryz.f35]) ?_
 cases s with
 |nil=>
  have d1:(([]:aG)==[])=true:=rfl
  repeat' (first|refine zA rfl ?_|refine aA ?_|refine aJ rfl ?_)
  exact⟨rfl,_,rfl,rfl,rfl⟩
 |cons c r=>
  have d1:((c::r)==[])=false:=rfl
  have hc:=c.toNat_lt
  have b1:=tB c
  have hl:(c::r).length=r.length+1:=rfl
  cases d2:decide ((4:Int) < (c.toNat:Int))
  ·have d2':=of_decide_eq_false d2
   cases d3:decide (((c::r).length:Int)≤(c.toNat:Int))
   ·have d3':=of_decide_eq_false d3
    have e1:IntKind.wrap .i64 (1+(c.toNat:Int))=((1+c.toNat:Nat):Int):=(Go.Ab.wrap_small (by omega) (by omega)).trans (by omega)
    have s1:(0:Int)≤1∧(1:Int)≤((1+c.toNat:Nat):Int)∧((1+c.toNat:Nat):Int)≤((c::r).length:Int)∧((c::r).take ((1+c.toNat:Nat):Int).toNat).drop (1:Int).toNat=r.take c.toNat:=by
     refine⟨by omega,by omega,by omega,?_⟩
     rw[Int.toNat_natCast,Nat.add_comm,List.take_succ_cons]
     rfl
    have s2:(0:Int)≤((1+c.toNat:Nat):Int)∧((1+c.toNat:Nat):Int)≤((c::r).length:Int)∧((c::r).length:Int)≤((c::r).length:Int)∧((c::r).take ((c::r).length:Int).toNat).drop ((1+c.toNat:Nat):Int).toNat=r.drop c.toNat:=by
     refine⟨by omega,by omega,by omega,?_⟩
     rw[Int.toNat_natCast,Int.toNat_natCast,List.take_length,Nat.add_comm,List.drop_succ_cons]
    have hlb:(r.take c.toNat).length=c.toNat:=by rw[List.length_take];omega
    have hnl:=uN 4 (r.take c.toNat) (by omega)
    by_cases h0:(r.take c.toNat).head?=some 0
    ·rw[fP (.inr (.inr h0))]
     obtain⟨B,hB⟩:∃B,r.take c.toNat=0::B:=by
      cases hq:r.take c.toNat with
      |nil=>rw[hq] at h0;cases h0
      |cons a B=>rw[hq] at h0;cases h0;exact⟨B,rfl⟩
     have d4:(!((0::B:aG)==[]))=true:=rfl
     have d5:decide (((0:UInt8).toNat:Int)=0)=true:=rfl
     rw[hB] at s1
     repeat' (first|refine zB rfl (by first|exact d1|exact d2|exact d3|exact d4) ?_|refine zI rfl (by first|exact b1|exact e1) ?_|refine zA rfl ?_|refine aA ?_|refine aJ rfl ?_|refine m8 aF rfl (⟨Int.le_refl 0,rfl⟩) ?_|refine i6 aF rfl (s1) ?_|refine i6 aF rfl (s2) ?_|refine aO mixed [0,1,2,3,4,5,6,7,8,9,10,11,12,13] [.P,.P,.P,.P,.P,.P,.P,.P,.P,.P,.P,.P,.P,.P] rfl rfl (by kernel_rfl) ?_)
     exact⟨rfl,_,rfl,rfl,rfl⟩
    ·rw[jJ (by rintro (h|h|h);omega;omega;exact h0 h)]
     generalize hB:r.take c.toNat=B at s1 hlb hnl h0
     generalize hR:r.drop c.toNat=R at s2
     have h4:(!(B==[]))=false∨∃a,(!(B==[]))=true∧B[0]? =some a∧decide ((a.toNat:Int)=0)=false:=by
      cases B with
      |nil=>exact .inl rfl
      |cons a B=>
       refine .inr ⟨a,rfl,rfl,?_⟩
       rw[decide_eq_false_iff_not]
       intro h
       apply h0
       have:a=0:=UInt8.toNat_inj.1 (by simpa using h)
       rw[this]
       rfl
     rcases h4 with d4|⟨a,d4,ha,d5⟩
     focus
      repeat' (first|refine zB rfl (by first|exact d1|exact d2|exact d3|exact d4) ?_|refine zI rfl (by first|exact b1|exact e1) ?_|refine zA rfl ?_|refine aA ?_|refine aJ rfl ?_|refine m8 aF rfl (⟨Int.le_refl 0,rfl⟩) ?_|refine i6 aF rfl (s1) ?_|refine i6 aF rfl (s2) ?_|refine aO mixed [0,1,2,3,4,5,6,7,8,9,10,11,12,13] [.P,.P,.P,.P,.P,.P,.P,.P,.P,.P,.P,.P,.P,.P] rfl rfl (by kernel_rfl) ?_)
     rotate_left
     focus
      repeat' (first|refine zB rfl (by first|exact d1|exact d2|exact d3|exact d4|exact d5) ?_|refine zI rfl (by first|exact b1|exact e1) ?_|refine zA rfl ?_|refine aA ?_|refine aJ rfl ?_|refine m8 aF rfl (⟨Int.le_refl 0,rfl⟩) ?_|refine m8 aF rfl (⟨Int.le_refl 0,ha⟩) ?_|refine i6 aF rfl (s1) ?_|refine i6 aF rfl (s2) ?_|refine aO mixed [0,1,2,3,4,5,6,7,8,9,10,11,12,13] [.P,.P,.P,.P,.P,.P,.P,.P,.P,.P,.P,.P,.P,.P] rfl rfl (by kernel_rfl) ?_)
     all_goals
      refine aX B.length (fun i f N=>N=M∧(True)∧f=⟨[(5,.str B),(6,.str R),(7,.int .i64 ((o8 (B.take i):Nat):Int)),(45,.int .i64 (B.length:Int)),(46,.int .i64 (i:Int))],[]⟩) (Nat.zero_le _) ⟨rfl,trivial,rfl⟩ (aM.le ?_ (aI.le_refl _)) ?_
      ·skip
       repeat (refine AF.le_cons rfl ?_)
       exact AF.le_nil rfl
      rintro i f N hi ⟨rfl,hinv,rfl⟩
      by_cases h1:i < B.length
      ·have d1:decide ((i:Int) < (B.length:Int))=true:=by simp;omega
       have hx:B[i]? =some B[i]:=List.getElem?_eq_getElem h1
       have fi:=aQ (i:=i) (by omega)
       have ht:=b7 hx
       have hm:=List.getElem_mem h1
       generalize B[i]=b at hx ht hm
       have hml:o8 (B.take i) < 256^4:=uN 4 _ (by simp;omega)
       have hnm:=FK (B.take i) b
       rw[←ht] at hnm
       generalize o8 (B.take i)=m at hnm hml
       have hb:=b.toNat_lt
       have g1:IntKind.wrap .i64 ((m:Int)*(2:Int)^(min (8:Int).toNat IntKind.i64.bits))=((m*256:Nat):Int):=by
        have:(2:Int)^(min (8:Int).toNat IntKind.i64.bits)=256:=rfl
        rw[this]
        exact (Go.Ab.wrap_small (by omega) (by omega)).trans (by omega)
       have g2:=tB b
       have g3:=a4s m b (by omega)
       repeat' (first|refine zB rfl d1 ?_|refine zI rfl (by first|exact g1|exact g2|exact g3|exact fi) ?_|refine zA rfl ?_|refine aA ?_|refine aJ rfl ?_|refine m8 aF rfl (byN hx) ?_)
       refine⟨h1,_,_,⟨rfl,?_,rfl⟩,aM.le ?_ (aI.le_refl _)⟩
       ·trivial
       ·rw[hnm]
        repeat (refine AF.le_cons rfl ?_)
        exact AF.le_nil rfl
      ·have d1:decide ((i:Int) < (B.length:Int))=false:=by simp;omega
       obtain rfl:i=B.length:=by omega
       rw[List.take_length]
       repeat' (first|refine zB rfl d1 ?_|refine zA rfl ?_|refine aA ?_|refine aJ rfl ?_)
       exact⟨rfl,_,rfl,rfl,rfl⟩
   ·have d3':=of_decide_eq_true d3
    rw[fP (.inr (.inl (by omega)))]
    repeat' (first|refine zB rfl (by first|exact d1|exact d2|exact d3) ?_|refine zI rfl b1 ?_|refine zA rfl ?_|refine aA ?_|refine aJ rfl ?_|refine m8 aF rfl (⟨Int.le_refl 0,rfl⟩) ?_)
    exact⟨rfl,_,rfl,rfl,rfl⟩
  ·have d2':=of_decide_eq_true d2
   rw[fP (.inl (by omega))]
   repeat' (first|refine zB rfl (by first|exact d1|exact d2) ?_|refine zI rfl b1 ?_|refine zA rfl ?_|refine aA ?_|refine aJ rfl ?_|refine m8 aF rfl (⟨Int.le_refl 0,rfl⟩) ?_)
   exact⟨rfl,_,rfl,rfl,rfl⟩
theorem JH {n j:Nat} (h:n/256^j=0):dH n j=0:=by simp[dH,h]
theorem O0 {n j:Nat} (h:0 < n/256^j) (h2:n/256^j < 256):(dH n j==0)=false:=by
 rw[beq_eq_false_iff_ne]
 intro e
 have:(dH n j).toNat=0:=by rw[e];rfl
 simp[dH] at this
 omega
theorem ZY {n k:Nat} (hk:k≤4) (h0:n/256^k=0) (h1:k=0∨0 < n/256^(k - 1)):nb n=(tL n).drop (4 - k):=by
 have z:∀j,k≤j→dH n j=0:=by
  intro j hj
  refine JH ?_
  obtain⟨d,rfl⟩:=Nat.exists_eq_add_of_le hj
  rw[Nat.pow_add,←Nat.div_div_eq_div_mul,h0,Nat.zero_div]
 have p:∀j,k=j+1→(dH n j==0)=false:=by
  intro j e
  subst e
  refine O0 (by rcases h1 with h|h;omega;simpa using h) ?_
  rw[Nat.pow_succ,←Nat.div_div_eq_div_mul] at h0
  omega
 have dz:∀{b:UInt8} {l:aG},b=0→(b::l).dropWhile (·==0)=l.dropWhile (·==0):=by
  rintro b l rfl
  rfl
 have dp:∀{b:UInt8} {l:aG},(b==0)=false→(b::l).dropWhile (·==0)=b::l:=by
  intro b l h
  rw[List.dropWhile_cons]
  simp only[h]
  rfl
 show (tL n).dropWhile (·==0)=_
 unfold tL
 rcases (by omega:k=0∨k=1∨k=2∨k=3∨k=4) with rfl|rfl|rfl|rfl|rfl
 ·rw[dz (z 3 (by omega)),dz (z 2 (by omega)),dz (z 1 (by omega)),dz (z 0 (by omega))];rfl
 ·rw[dz (z 3 (by omega)),dz (z 2 (by omega)),dz (z 1 (by omega)),dp (p 0 rfl)];rfl
 ·rw[dz (z 3 (by omega)),dz (z 2 (by omega)),dp (p 1 rfl)];rfl
 ·rw[dz (z 3 (by omega)),dp (p 2 rfl)];rfl
 ·rw[dp (p 3 rfl)];rfl
theorem Y2 {n k:Nat} (hk:k < 4):(tL n).drop (4 - (k+1))=dH n k::(tL n).drop (4 - k):=by
 rcases (by omega:k=0∨k=1∨k=2∨k=3) with rfl|rfl|rfl|rfl<;>rfl
theorem P8 {n k:Nat} (hk:k≤4):((tL n).drop (4 - k)).length=k:=by
 rw[List.length_drop]
 show 4 - (4 - k)=k
 omega
theorem LO (n:Int) (hn:n < 9223372036854775808) (hn0:-9223372036854775808≤n):aN Tryz.prog 31 [.int .i64 n] (FF n):=by
 intro M
 refine aC aF Tryz.func31 rfl (by decide) (by simp[Tryz.f31]) ?_
 unfold FF
 cases d1:decide (n < 0)
 ·cases d2:decide (4294967295 < n)
  ·have h1:=of_decide_eq_false d1
   have h2:=of_decide_eq_false d2
   rw[if_pos ⟨by omega,by omega⟩]
   obtain⟨m,rfl⟩:=Int.eq_ofNat_of_zero_le (by omega:0≤n)
   repeat' (first|refine zB rfl (by first|exact d1|exact d2) ?_|refine zA rfl ?_|refine aA ?_|refine aJ rfl ?_)
   refine lV (fun c f N=>∃k,c=4 - k∧k≤4∧(k=0∨0 < m/256^(k - 1))∧N=M∧f=⟨[(0,.int .i64 ((m/256^k:Nat):Int)),(4,.str ((tL m).drop (4 - k))),(5,.int .i64 (k:Int))],[]⟩) (k:=4) ⟨0,rfl,by omega,.inl rfl,rfl,rfl⟩ (aM.le ?_ (aI.le_refl _)) ?_
   ·rw[show m/256^0=m from by simp]
    repeat (refine AF.le_cons rfl ?_)
    exact AF.le_nil rfl
   rintro c f N ⟨k,rfl,hk,hpos,rfl,rfl⟩
   by_cases h0:m/256^k=0
   ·have d3:decide ((0:Int) < ((m/256^k:Nat):Int))=false:=by rw[h0];rfl
    have hnb:=ZY hk h0 hpos
    have hl:=P8 (n:=m) hk
    have w1:IntKind.wrap .u8 (k:Int)=(((UInt8.ofNat k).toNat:Nat):Int):=by
     rcases (by omega:k=0∨k=1∨k=2∨k=3∨k=4) with rfl|rfl|rfl|rfl|rfl<;>rfl
    have hp:eU m=[UInt8.ofNat k]++(tL m).drop (4 - k):=by
     unfold eU
     rw[hnb,hl]
     rfl
    have hcat:[UInt8.ofNat k].length+((tL m).drop (4 - k)).length≤9223372036854775807∧[UInt8.ofNat k]++(tL m).drop (4 - k)=eU m:=⟨by rw[hl];simp;omega,hp.symm⟩
    repeat' (first|refine zB rfl d3 ?_|refine zI rfl w1 ?_|refine zA rfl ?_|refine aA ?_|refine aJ rfl ?_|refine PT aF rfl ((rfl:_=List.map fJ [UInt8.ofNat k])) ?_|refine lW rfl (hcat) ?_|refine zR rfl ?_)
    exact⟨rfl,_,rfl,rfl,rfl⟩
   ·have d3:decide ((0:Int) < ((m/256^k:Nat):Int))=true:=decide_eq_true (Int.natCast_pos.2 (Nat.pos_of_ne_zero h0))
    have hk4:k < 4:=by
     refine Nat.lt_of_not_le fun h=>h0 ?_
     have:k=4:=by omega
     subst this
     exact Nat.div_eq_of_lt (by omega)
    have hq:m/256^(k+1)=m/256^k/256:=by rw[Nat.pow_succ,Nat.div_div_eq_div_mul]
    have r1:=VA (m/256^k)
    have b1:=NJ m k _ rfl
    have hle:=Nat.div_le_self m (256^k)
    have q1:IntKind.wrap .i64 (Int.tdiv ((m/256^k:Nat):Int) 256)=((m/256^(k+1):Nat):Int):=by
     rw[hq]
     have h:Int.tdiv ((m/256^k:Nat):Int) 256=((m/256^k/256:Nat):Int):=Int.tdiv_eq_ediv_of_nonneg (Int.natCast_nonneg _)
     rw[h]
     clear r1 b1 d3 hq h
     generalize m/256^k=q at hle
     exact Go.Ab.wrap_small (by omega) (by omega)
    have fi:=aQ (i:=k) (by omega)
    have hd:=Y2 (n:=m) hk4
    have hcat:[dH m k].length+((tL m).drop (4 - k)).length≤9223372036854775807∧[dH m k]++(tL m).drop (4 - k)=(tL m).drop (4 - (k+1)):=⟨by rw[P8 hk];simp;omega,hd.symm⟩
    repeat' (first|refine zB rfl d3 ?_|refine zI rfl (by first|exact r1|exact b1|exact q1|exact fi) ?_|refine zA rfl ?_|refine aA ?_|refine aJ rfl ?_|refine PT aF rfl ((rfl:_=List.map fJ [dH m k])) ?_|refine lW rfl (hcat) ?_|refine zR rfl ?_)
    refine⟨4 - (k+1),_,_,by omega,⟨k+1,rfl,by omega,.inr (by simpa using Nat.pos_of_ne_zero h0),rfl,rfl⟩,aM.le ?_ (aI.le_refl _)⟩
    repeat (refine AF.le_cons rfl ?_)
    exact AF.le_nil rfl
  ·have h2:=of_decide_eq_true d2
   rw[if_neg (by omega)]
   repeat' (first|refine zB rfl (by first|exact d1|exact d2) ?_|refine zA rfl ?_|refine aA ?_|refine aJ rfl ?_)
   exact⟨rfl,_,rfl,rfl,rfl⟩
 ·have h1:=of_decide_eq_true d1
  rw[if_neg (by omega)]
  repeat' (first|refine zB rfl d1 ?_|refine zA rfl ?_|refine aA ?_|refine aJ rfl ?_)
  exact⟨rfl,_,rfl,rfl,rfl⟩
theorem ID {m:Nat} (h:m < 4294967296):FF (m:Int)=.tup [.str (eU m),.int .i64 0]:=if_pos ⟨by omega,by omega⟩
theorem nP {m:Nat} (h:m < 4294967296):aN Tryz.prog 27 [.int .i64 (m:Int)] (.tup [.str (eU m),.int .i64 0]):=by
 rw[←ID h]
 exact RY _
theorem jH {m:Nat} (h:m < 4294967296):aN Tryz.prog 31 [.int .i64 (m:Int)] (.tup [.str (eU m),.int .i64 0]):=by
 rw[←ID h]
 exact LO _ (by omega) (by omega)
theorem dO {n j:Nat} {b:UInt8} (h:n/256^j%256=b.toNat):dH n j=b:=by
 unfold dH
 rw[h]
 exact UInt8.ofNat_toNat
theorem ZX (B:aG) (h:B.length≤4):tL (o8 B)=List.replicate (4 - B.length) 0++B:=by
 have z:((0:UInt8).toNat:Nat)=0:=rfl
 match B,h with
 |[],_=>rfl
 |[a],_=>
  have ha:=a.toNat_lt
  have e:o8 [a]=a.toNat:=by simp[o8]
  rw[e]
  unfold tL
  rw[dO (b:=0) (j:=3) (by rw[z];omega),dO (b:=0) (j:=2) (by rw[z];omega),dO (b:=0) (j:=1) (by rw[z];omega),dO (b:=a) (j:=0) (by omega)]
  rfl
 |[a,b],_=>
  have ha:=a.toNat_lt
  have hb:=b.toNat_lt
  have e:o8 [a,b]=a.toNat*256+b.toNat:=by simp[o8]
  rw[e]
  unfold tL
  rw[dO (b:=0) (j:=3) (by rw[z];omega),dO (b:=0) (j:=2) (by rw[z];omega),dO (b:=a) (j:=1) (by omega),dO (b:=b) (j:=0) (by omega)]
  rfl
 |[a,b,c],_=>
  have ha:=a.toNat_lt
  have hb:=b.toNat_lt
  have hc:=c.toNat_lt
  have e:o8 [a,b,c]=(a.toNat*256+b.toNat)*256+c.toNat:=by simp[o8]
  rw[e]
  unfold tL
  rw[dO (b:=0) (j:=3) (by rw[z];omega),dO (b:=a) (j:=2) (by omega),dO (b:=b) (j:=1) (by omega),dO (b:=c) (j:=0) (by omega)]
  rfl
 |[a,b,c,d],_=>
  have ha:=a.toNat_lt
  have hb:=b.toNat_lt
  have hc:=c.toNat_lt
  have hd:=d.toNat_lt
  have e:o8 [a,b,c,d]=((a.toNat*256+b.toNat)*256+c.toNat)*256+d.toNat:=by simp[o8]
  rw[e]
  unfold tL
  rw[dO (b:=a) (j:=3) (by omega),dO (b:=b) (j:=2) (by omega),dO (b:=c) (j:=1) (by omega),dO (b:=d) (j:=0) (by omega)]
  rfl
 |_::_::_::_::_::_,h=>simp at h
theorem a7t (k:Nat) (B:aG):(List.replicate k 0++B).dropWhile (·==0)=B.dropWhile (·==0):=by
 induction k with
 |zero=>rfl
 |succ k ih=>simp[List.replicate_succ,ih]
theorem a6r {B:aG} (h:B.length≤4):nb (o8 B)=B.dropWhile (·==0):=by
 have e:(tL (o8 B)).take 4=tL (o8 B):=rfl
 unfold nb JS
 rw[e,ZX B h,a7t]
theorem QT {B:aG} {c:UInt8} (h:B.length≤4) (hc:c.toNat=B.length):(eU (o8 B)==c::B)=!(decide (B.head?=some 0)):=by
 unfold eU
 rw[a6r h]
 cases B with
 |nil=>
  have:c=UInt8.ofNat 0:=UInt8.toNat_inj.1 hc
  subst this
  rfl
 |cons b B=>
  by_cases hb:b=0
  ·subst hb
   have e:((0:UInt8)::B).dropWhile (·==0)=B.dropWhile (·==0):=rfl
   have hl:(B.dropWhile (·==0)).length≤B.length:=(List.dropWhile_sublist _).length_le
   rw[e]
   simp only[List.head?_cons,decide_true,Bool.not_true,beq_eq_false_iff_ne]
   intro he
   have:=congrArg List.length he
   simp at this
   omega
  ·have e:(b::B).dropWhile (·==0)=b::B:=by
    rw[List.dropWhile_cons]
    simp[hb]
   have hcc:UInt8.ofNat (b::B).length=c:=by rw[←hc];exact UInt8.ofNat_toNat
   rw[e,hcc]
   simp[hb]
theorem jB (s:aG) (hs:s.length < 4611686018427387904):aN Tryz.prog 37 [.str s] (gnA (bV s)):=by
 intro M
 refine aC aF Tryz.func37 rfl (by decide) (by simp[Tryz.f37]) ?_
 cases s with
 |nil=>
  have d1:decide ((([]:aG).length:Int)=0)=true:=rfl
  repeat' (first|refine zB rfl d1 ?_|refine zA rfl ?_|refine aA ?_|refine aJ rfl ?_)
  exact⟨rfl,_,rfl,rfl,rfl⟩
 |cons c r=>
  have d1:decide (((c::r).length:Int)=0)=false:=by simp;omega
  have hc:=c.toNat_lt
  have b1:=tB c
  have hl:(c::r).length=r.length+1:=rfl
  cases d2:decide ((4:Int) < (c.toNat:Int))
  ·have d2':=of_decide_eq_false d2
   have e1:IntKind.wrap .i64 (1+(c.toNat:Int))=((1+c.toNat:Nat):Int):=(Go.Ab.wrap_small (by omega) (by omega)).trans (by omega)
   cases d3:decide (((c::r).length:Int) < ((1+c.toNat:Nat):Int))
   ·have d3':=of_decide_eq_false d3
    have hlb:(r.take c.toNat).length=c.toNat:=by rw[List.length_take];omega
    have hnl:=uN 4 (r.take c.toNat) (by omega)
    have hpn:=QT (B:=r.take c.toNat) (c:=c) (by omega) hlb.symm
    have kn:=jH (m:=o8 (r.take c.toNat)) (by omega)
    have s1:(0:Int)≤0∧(0:Int)≤((1+c.toNat:Nat):Int)∧((1+c.toNat:Nat):Int)≤((c::r).length:Int)∧((c::r).take ((1+c.toNat:Nat):Int).toNat).drop (0:Int).toNat=c::r.take c.toNat:=by
     refine⟨by omega,by omega,by omega,?_⟩
     rw[Int.toNat_natCast,Nat.add_comm,List.take_succ_cons]
     rfl
    have s2:(0:Int)≤((1+c.toNat:Nat):Int)∧((1+c.toNat:Nat):Int)≤((c::r).length:Int)∧((c::r).length:Int)≤((c::r).length:Int)∧((c::r).take ((c::r).length:Int).toNat).drop ((1+c.toNat:Nat):Int).toNat=r.drop c.toNat:=by
     refine⟨by omega,by omega,by omega,?_⟩
     rw[Int.toNat_natCast,Int.toNat_natCast,List.take_length,Nat.add_comm,List.drop_succ_cons]
    repeat' (first|refine zB rfl (by first|exact d1|exact d2|exact d3) ?_|refine zI rfl (by first|exact b1|exact e1) ?_|refine zA rfl ?_|refine aA ?_|refine aJ rfl ?_|refine m8 aF rfl (⟨Int.le_refl 0,rfl⟩) ?_)
    refine aX (1+c.toNat) (fun i f N=>1≤i∧N=M∧f=⟨[(0,.str (c::r)),(5,.int .i64 ((1+c.toNat:Nat):Int)),(6,.int .i64 ((o8 (((c::r).take i).drop 1):Nat):Int)),(7,.int .i64 (i:Int))],[]⟩) (i0:=1) (by omega) ⟨by omega,rfl,rfl⟩ (aM.le ?_ (aI.le_refl _)) ?_
    ·repeat (refine AF.le_cons rfl ?_)
     exact AF.le_nil rfl
    ·rintro i f N hi ⟨hei,rfl,rfl⟩
     by_cases h1:i < 1+c.toNat
     ·have d4:decide ((i:Int) < ((1+c.toNat:Nat):Int))=true:=by simp;omega
      have hxi:(c::r)[i]? =some (c::r)[i]:=List.getElem?_eq_getElem (by omega)
      have fi:=aQ (i:=i) (by omega)
      generalize (c::r)[i]=b at hxi
      have ht:=AR hei hxi
      have hnm:=FK (((c::r).take i).drop 1) b
      rw[←ht] at hnm
      have hml:o8 (((c::r).take i).drop 1) < 256^4:=uN 4 _ (by simp;omega)
      generalize o8 (((c::r).take i).drop 1)=m at hnm hml
      have hb:=b.toNat_lt
      have g1:IntKind.wrap .i64 (256*(m:Int))=((m*256:Nat):Int):=(Go.Ab.wrap_small (by omega) (by omega)).trans (by omega)
      have g2:=tB b
      have g3:IntKind.wrap .i64 (((m*256:Nat):Int)+(b.toNat:Int))=((m*256+b.toNat:Nat):Int):=(Go.Ab.wrap_small (by omega) (by omega)).trans (by omega)
      repeat' (first|refine zB rfl d4 ?_|refine zI rfl (by first|exact g1|exact g2|exact g3|exact fi) ?_|refine zA rfl ?_|refine aA ?_|refine aJ rfl ?_|refine m8 aF rfl (byN hxi) ?_)
      refine⟨h1,_,_,⟨by omega,rfl,rfl⟩,aM.le ?_ (aI.le_refl _)⟩
      rw[hnm]
      repeat (refine AF.le_cons rfl ?_)
      exact AF.le_nil rfl
     ·have d4:decide ((i:Int) < ((1+c.toNat:Nat):Int))=false:=by simp;omega
      obtain rfl:i=1+c.toNat:=by omega
      have e2:((c::r).take (1+c.toNat)).drop 1=r.take c.toNat:=by
       rw[Nat.add_comm,List.take_succ_cons]
       rfl
      rw[e2]
      by_cases h0:(r.take c.toNat).head?=some 0
      ·rw[fP (.inr (.inr h0))]
       have d5:(!(eU (o8 (r.take c.toNat))==c::r.take c.toNat))=true:=by rw[hpn];simp[h0]
       repeat' (first|refine zB rfl (by first|exact d4|exact d5) ?_|refine zA rfl ?_|refine aA ?_|refine aJ rfl ?_|refine aD rfl kn ?_|refine i6 aF rfl (s1) ?_)
       exact⟨rfl,_,rfl,rfl,rfl⟩
      ·rw[jJ (by rintro (h|h|h);omega;omega;exact h0 h)]
       have d5:(!(eU (o8 (r.take c.toNat))==c::r.take c.toNat))=false:=by rw[hpn];simp[h0]
       repeat' (first|refine zB rfl (by first|exact d4|exact d5) ?_|refine zA rfl ?_|refine aA ?_|refine aJ rfl ?_|refine aD rfl kn ?_|refine i6 aF rfl (s1) ?_|refine i6 aF rfl (s2) ?_|refine aO mixed [0,1,2,3,4,5,6] [.P,.P,.P,.P,.P,.P,.P] rfl rfl (by kernel_rfl) ?_)
       exact⟨rfl,_,rfl,rfl,rfl⟩
   ·have d3':=of_decide_eq_true d3
    rw[fP (.inr (.inl (by omega)))]
    repeat' (first|refine zB rfl (by first|exact d1|exact d2|exact d3) ?_|refine zI rfl (by first|exact b1|exact e1) ?_|refine zA rfl ?_|refine aA ?_|refine aJ rfl ?_|refine m8 aF rfl (⟨Int.le_refl 0,rfl⟩) ?_)
    exact⟨rfl,_,rfl,rfl,rfl⟩
  ·have d2':=of_decide_eq_true d2
   rw[fP (.inl (by omega))]
   repeat' (first|refine zB rfl (by first|exact d1|exact d2) ?_|refine zA rfl ?_|refine aA ?_|refine aJ rfl ?_|refine m8 aF rfl (⟨Int.le_refl 0,rfl⟩) ?_)
   exact⟨rfl,_,rfl,rfl,rfl⟩
def iA (l:List Int) (t:eI):AV:=.sl 1 (l.map fun n=>AV.int .i64 n) t
theorem W1 (a b:List Int) (ta tb:eI) (ha:a.length < 1000000000) (hb:b.length < 1000000000):aN Tryz.prog 138 [iA a ta,iA b tb] (.bool (decide (a=b))):=by
 intro M
 refine aC aF Tryz.func138 rfl (by decide) (by simp[Tryz.f138]) ?_
 have la:=aU (fun n=>AV.int .i64 n) a
 have lb:=aU (fun n=>AV.int .i64 n) b
 unfold iA
 by_cases hl:a.length=b.length
 ·have d0:(!decide ((a.length:Int)=(b.length:Int)))=false:=by simp;omega
  repeat' (first|refine zB rfl d0 ?_|refine zI rfl (by first|exact la|exact lb) ?_|refine zA rfl ?_|refine aA ?_|refine aJ rfl ?_)
  refine aX a.length (fun i f N=>N=M∧(a.take i=b.take i)∧f=⟨[(0,.sl 1 (a.map fun n=>AV.int .i64 n) ta),(1,.sl 1 (b.map fun n=>AV.int .i64 n) tb),(5,.int .i64 (i:Int))],[]⟩) (Nat.zero_le _) ⟨rfl,by simp,rfl⟩ (aM.le ?_ (aI.le_refl _)) ?_
  ·skip
   repeat (refine AF.le_cons rfl ?_)
   exact AF.le_nil rfl
  rintro i f N hi ⟨rfl,hinv,rfl⟩
  by_cases h1:i < a.length
  ·have d1:decide ((i:Int) < (a.length:Int))=true:=by simp;omega
   have hx:a[i]? =some a[i]:=List.getElem?_eq_getElem h1
   have fi:=aQ (i:=i) (by omega)
   have ht:=b7 hx
   have hm:=List.getElem_mem h1
   generalize a[i]=x at hx ht hm
   have hy:b[i]? =some b[i]:=List.getElem?_eq_getElem (by omega)
   have ht2:=b7 hy
   generalize b[i]=y at hy ht2
   cases h2:decide (x=y)
   ·have d2:(!decide (x=y))=true:=by rw[h2];rfl
    have e:decide (a=b)=false:=by
     rw[decide_eq_false_iff_not]
     rintro rfl
     rw[hx] at hy
     cases hy
     simp at h2
    rw[e]
    repeat' (first|refine zB rfl (by first|exact d1|exact d2) ?_|refine zI rfl la ?_|refine zA rfl ?_|refine aA ?_|refine aJ rfl ?_|refine zX rfl (c7 hx) ?_|refine zX rfl (c7 hy) ?_|refine aO mixed [0,1,4,5,2,3,6,7,8] [.P,.P,.R,.R,.P,.P,.R,.R,.P] rfl rfl (by kernel_rfl) ?_)
    exact⟨rfl,_,rfl,rfl,rfl⟩
   ·have d2:(!decide (x=y))=false:=by rw[h2];rfl
    have:=of_decide_eq_true h2
    subst this
    repeat' (first|refine zB rfl (by first|exact d1|exact d2) ?_|refine zI rfl (by first|exact la|exact fi) ?_|refine zA rfl ?_|refine aA ?_|refine aJ rfl ?_|refine zX rfl (c7 hx) ?_|refine zX rfl (c7 hy) ?_|refine aO mixed [0,1,4,5,2,3,6,7,8] [.P,.P,.R,.R,.P,.P,.R,.R,.P] rfl rfl (by kernel_rfl) ?_)
    refine⟨h1,_,_,⟨rfl,(by rw[ht,ht2,hinv]),rfl⟩,aM.le ?_ (aI.le_refl _)⟩
    repeat (refine AF.le_cons rfl ?_)
    exact AF.le_nil rfl
  ·have d1:decide ((i:Int) < (a.length:Int))=false:=by simp;omega
   obtain rfl:i=a.length:=by omega
   have e:a=b:=by
    rw[List.take_length,hl,List.take_length] at hinv
    exact hinv
   have e:decide (a=b)=true:=decide_eq_true e
   rw[e]
   repeat' (first|refine zB rfl d1 ?_|refine zI rfl la ?_|refine zA rfl ?_|refine aA ?_|refine aJ rfl ?_)
   exact⟨rfl,_,rfl,rfl,rfl⟩
 ·have d0:(!decide ((a.length:Int)=(b.length:Int)))=true:=by simp;omega
  have e:decide (a=b)=false:=by
   rw[decide_eq_false_iff_not]
   rintro rfl
   exact hl rfl
  rw[e]
  repeat' (first|refine zB rfl d0 ?_|refine zI rfl (by first|exact la|exact lb) ?_|refine zA rfl ?_|refine aA ?_|refine aJ rfl ?_)
  exact⟨rfl,_,rfl,rfl,rfl⟩
structure Mt where
 size:Int
 mode:Int
 ch:List Int
deriving DecidableEq
def Mt.cells (m:Mt):List AV:=[.int .i64 m.size,.int .i64 m.mode,iA m.ch .none]
def Mt.av (m:Mt):AV:=.agg m.cells
def dA:Mt:=⟨0,0,[]⟩
theorem i9 (l:List Int) {t:eI} (ht:t=.none∨t=.full):aP (iA l t):=by
 refine c8 ht ?_ ?_
 ·intro x hx
  obtain⟨n,_,rfl⟩:=List.mem_map.1 hx
  exact aB
 ·intro x hx c hc
  obtain⟨n,_,rfl⟩:=List.mem_map.1 hx
  simp[AV.cells] at hc
  subst hc
  exact aB
theorem ES (m:Mt):∀x,x∈m.cells→aP x:=cD aB aB (i9 _ (.inl rfl))
theorem iB (m:Mt):aP m.av:=cP (ES m)
theorem Sub.aggL {l m:List AV} (h:FS l m):Sub (.agg l) (.agg m):=by
 intro μ F w v hr
 obtain⟨c,rfl,h1,h2,h3⟩:=hr.agg_inv
 refine .agg m c (h1.trans h.len) (fun i y u hy hu=>?_) h3
 have hi:i < l.length:=by rw[h.len];exact (List.getElem?_eq_some_iff.1 hy).1
 exact h.get i _ y (List.getElem?_eq_getElem hi) hy μ F w u (h2 i _ u (List.getElem?_eq_getElem hi) hu)
def Mt.avT (m:Mt) (t:eI):AV:=.agg [.int .i64 m.size,.int .i64 m.mode,iA m.ch t]
theorem G3 {m:Mt} {t:eI}:Sub (m.avT t) m.av:=Sub.aggL ⟨Sub.refl,Sub.refl,Sub.untag,trivial⟩
def K0 (n k:Int):Bool:=decide (0≤n)&&decide (n≤k)
def mV (m:Mt):Bool:=m.ch.all (fun n=>K0 n 4294967295)&&(K0 m.size 1000000000&&K0 m.mode 4095&&decide (m.ch.length≤16))
theorem vD (n k:Int):aN Tryz.prog 195 [.int .i64 n,.int .i64 k] (.bool (K0 n k)):=by
 intro M
 refine aC aF Tryz.func195 rfl (by decide) (by simp[Tryz.f195]) ?_
 unfold K0
 cases d1:decide (0≤n)
 ·repeat' (first|refine zB rfl d1 ?_|refine zA rfl ?_|refine aA ?_|refine aJ rfl ?_)
  exact⟨rfl,_,rfl,rfl,rfl⟩
 ·cases d2:decide (n≤k)
  ·repeat' (first|refine zB rfl (by first|exact d1|exact d2) ?_|refine zA rfl ?_|refine aA ?_|refine aJ rfl ?_)
   exact⟨rfl,_,rfl,rfl,rfl⟩
  ·repeat' (first|refine zB rfl (by first|exact d1|exact d2) ?_|refine zA rfl ?_|refine aA ?_|refine aJ rfl ?_)
   exact⟨rfl,_,rfl,rfl,rfl⟩
theorem zC {α:Type} {p:α→Bool} {l:List α} {i:Nat} {x:α} (hx:l[i]? =some x) (hi:(l.take i).all p=true) (h:p x=true):(l.take (i+1)).all p=true:=by
 rw[b7 hx,List.all_append,hi]
 simp[h]
theorem LU {α:Type} {p:α→Bool} {l:List α} {i:Nat} {x:α} (hx:l[i]? =some x) (h:p x=false):l.all p=false:=by
 cases ha:l.all p
 ·rfl
 ·rw[List.all_eq_true] at ha
  rw[ha x (List.mem_of_getElem? hx)] at h
  cases h
theorem LJ (m:Mt) (hl:m.ch.length < 1000000):aN Tryz.prog 166 [m.av] (.bool (mV m)):=by
 intro M
 refine aC aF Tryz.func166 rfl (by decide) (by simp[Tryz.f166]) ?_
 have lc:=aU (fun n=>AV.int .i64 n) m.ch
 have k1:=vD m.size 1000000000
 have k2:=vD m.mode 4095
 unfold mV
 repeat' (first|refine zI rfl lc ?_|refine zA rfl ?_|refine aA ?_|refine aJ rfl ?_)
 refine aX m.ch.length (fun i f N=>N=M∧((m.ch.take i).all (fun n=>K0 n 4294967295)=true)∧f=⟨[(1,.ref m.cells),(6,iA m.ch .none),(7,.int .i64 (m.ch.length:Int)),(8,.int .i64 (i:Int))],[]⟩) (Nat.zero_le _) ⟨rfl,by simp,rfl⟩ (aM.le ?_ (aI.le_refl _)) ?_
 ·skip
  repeat (refine AF.le_cons rfl ?_)
  exact AF.le_nil rfl
 rintro i f N hi ⟨rfl,hinv,rfl⟩
 by_cases h1:i < m.ch.length
 ·have d1:decide ((i:Int) < (m.ch.length:Int))=true:=by simp;omega
  have hx:m.ch[i]? =some m.ch[i]:=List.getElem?_eq_getElem h1
  have fi:=aQ (i:=i) (by omega)
  have ht:=b7 hx
  have hm:=List.getElem_mem h1
  generalize m.ch[i]=x at hx ht hm
  have kx:=vD x 4294967295
  cases h:K0 x 4294967295
  ·rw[h] at kx
   rw[LU hx h]
   repeat' (first|refine zB rfl d1 ?_|refine zA rfl ?_|refine aA ?_|refine aJ rfl ?_|refine aD rfl kx ?_|refine zX rfl (c7 hx) ?_)
   exact⟨rfl,_,rfl,rfl,rfl⟩
  ·rw[h] at kx
   repeat' (first|refine zB rfl d1 ?_|refine zI rfl (by first|exact lc|exact fi) ?_|refine zA rfl ?_|refine aA ?_|refine aJ rfl ?_|refine aD rfl kx ?_|refine zX rfl (c7 hx) ?_)
   refine⟨h1,_,_,⟨rfl,(zC hx hinv h),rfl⟩,aM.le ?_ (aI.le_refl _)⟩
   repeat (refine AF.le_cons rfl ?_)
   exact AF.le_nil rfl
 ·have d1:decide ((i:Int) < (m.ch.length:Int))=false:=by simp;omega
  obtain rfl:i=m.ch.length:=by omega
  rw[List.take_length] at hinv
  rw[hinv]
  cases h1:K0 m.size 1000000000
  ·rw[h1] at k1
   repeat' (first|refine zB rfl d1 ?_|refine zA rfl ?_|refine aA ?_|refine aJ rfl ?_|refine aD rfl k1 ?_)
   exact⟨rfl,_,rfl,rfl,rfl⟩
  ·rw[h1] at k1
   cases h2:K0 m.mode 4095
   ·rw[h2] at k2
    repeat' (first|refine zB rfl d1 ?_|refine zA rfl ?_|refine aA ?_|refine aJ rfl ?_|refine aD rfl k1 ?_|refine aD rfl k2 ?_)
    exact⟨rfl,_,rfl,rfl,rfl⟩
   ·rw[h2] at k2
    by_cases h3:m.ch.length≤16
    ·have d3:decide ((m.ch.length:Int)≤16)=true:=by simp;omega
     rw[decide_eq_true h3]
     repeat' (first|refine zB rfl (by first|exact d1|exact d3) ?_|refine zI rfl lc ?_|refine zA rfl ?_|refine aA ?_|refine aJ rfl ?_|refine aD rfl k1 ?_|refine aD rfl k2 ?_)
     exact⟨rfl,_,rfl,rfl,rfl⟩
    ·have d3:decide ((m.ch.length:Int)≤16)=false:=by simp;omega
     rw[decide_eq_false h3]
     repeat' (first|refine zB rfl (by first|exact d1|exact d3) ?_|refine zI rfl lc ?_|refine zA rfl ?_|refine aA ?_|refine aJ rfl ?_|refine aD rfl k1 ?_|refine aD rfl k2 ?_)
     exact⟨rfl,_,rfl,rfl,rfl⟩
theorem r3 (n k:Int):K0 n k=(!decide (n < 0)&&!decide (k < n)):=by
 unfold K0
 rw[Bool.eq_iff_iff]
 simp
theorem FC (m:Mt) (hl:m.ch.length < 1000000):aN Tryz.prog 137 [m.av] (.bool (mV m)):=by
 intro M
 refine aC aF Tryz.func137 rfl (by decide) (by simp[Tryz.f137]) ?_
 have lc:=aU (fun n=>AV.int .i64 n) m.ch
 have no:(K0 m.size 1000000000&&K0 m.mode 4095&&decide (m.ch.length≤16))=false→mV m=false:=by
  intro h
  unfold mV
  rw[h,Bool.and_false]
 rw[r3,r3] at no
 cases d1:decide (m.size < 0)
 ·cases d2:decide (1000000000 < m.size)
  ·cases d3:decide (m.mode < 0)
   ·cases d4:decide (4095 < m.mode)
    ·cases d5:decide ((16:Int) < (m.ch.length:Int))
     ·have d5':=of_decide_eq_false d5
      have yes:mV m=m.ch.all (fun n=>K0 n 4294967295):=by
       unfold mV
       rw[r3,r3,d1,d2,d3,d4,decide_eq_true (by omega:m.ch.length≤16)]
       simp
      rw[yes]
      repeat' (first|refine zB rfl (by first|exact d1|exact d2|exact d3|exact d4|exact d5) ?_|refine zI rfl lc ?_|refine zA rfl ?_|refine aA ?_|refine aJ rfl ?_)
      refine aX m.ch.length (fun i f N=>N=M∧((m.ch.take i).all (fun n=>K0 n 4294967295)=true)∧f=⟨[(1,.ref m.cells),(3,.int .i64 (i:Int))],[]⟩) (Nat.zero_le _) ⟨rfl,by simp,rfl⟩ (aM.le ?_ (aI.le_refl _)) ?_
      ·skip
       repeat (refine AF.le_cons rfl ?_)
       exact AF.le_nil rfl
      rintro i f N hi ⟨rfl,hinv,rfl⟩
      by_cases h1:i < m.ch.length
      ·have d1:decide ((i:Int) < (m.ch.length:Int))=true:=by simp;omega
       have hx:m.ch[i]? =some m.ch[i]:=List.getElem?_eq_getElem h1
       have fi:=aQ (i:=i) (by omega)
       have ht:=b7 hx
       have hm:=List.getElem_mem h1
       generalize m.ch[i]=x at hx ht hm
       cases x1:decide (x < 0)
       ·cases x2:decide (4294967295 < x)
        ·repeat' (first|refine zB rfl (by first|exact d1|exact x1|exact x2) ?_|refine zI rfl (by first|exact lc|exact fi) ?_|refine zA rfl ?_|refine aA ?_|refine aJ rfl ?_|refine zX rfl (c7 hx) ?_)
         refine⟨h1,_,_,⟨rfl,(zC hx hinv (by rw[r3,x1,x2];rfl)),rfl⟩,aM.le ?_ (aI.le_refl _)⟩
         repeat (refine AF.le_cons rfl ?_)
         exact AF.le_nil rfl
        ·rw[LU hx (by rw[r3,x2];simp)]
         repeat' (first|refine zB rfl (by first|exact d1|exact x1|exact x2) ?_|refine zI rfl lc ?_|refine zA rfl ?_|refine aA ?_|refine aJ rfl ?_|refine zX rfl (c7 hx) ?_)
         exact⟨rfl,_,rfl,rfl,rfl⟩
       ·rw[LU hx (by rw[r3,x1];simp)]
        repeat' (first|refine zB rfl (by first|exact d1|exact x1) ?_|refine zI rfl lc ?_|refine zA rfl ?_|refine aA ?_|refine aJ rfl ?_|refine zX rfl (c7 hx) ?_)
        exact⟨rfl,_,rfl,rfl,rfl⟩
      ·have d1:decide ((i:Int) < (m.ch.length:Int))=false:=by simp;omega
       obtain rfl:i=m.ch.length:=by omega
       rw[List.take_length] at hinv
       rw[hinv]
       repeat' (first|refine zB rfl d1 ?_|refine zI rfl lc ?_|refine zA rfl ?_|refine aA ?_|refine aJ rfl ?_)
       exact⟨rfl,_,rfl,rfl,rfl⟩
     ·have d5':=of_decide_eq_true d5
      rw[no (by rw[decide_eq_false (by omega:¬m.ch.length≤16)];simp)]
      repeat' (first|refine zB rfl (by first|exact d1|exact d2|exact d3|exact d4|exact d5) ?_|refine zI rfl lc ?_|refine zA rfl ?_|refine aA ?_|refine aJ rfl ?_)
      exact⟨rfl,_,rfl,rfl,rfl⟩
    ·rw[no (by rw[d4];simp)]
     repeat' (first|refine zB rfl (by first|exact d1|exact d2|exact d3|exact d4) ?_|refine zA rfl ?_|refine aA ?_|refine aJ rfl ?_)
     exact⟨rfl,_,rfl,rfl,rfl⟩
   ·rw[no (by rw[d3];simp)]
    repeat' (first|refine zB rfl (by first|exact d1|exact d2|exact d3) ?_|refine zA rfl ?_|refine aA ?_|refine aJ rfl ?_)
    exact⟨rfl,_,rfl,rfl,rfl⟩
  ·rw[no (by rw[d2];simp)]
   repeat' (first|refine zB rfl (by first|exact d1|exact d2) ?_|refine zA rfl ?_|refine aA ?_|refine aJ rfl ?_)
   exact⟨rfl,_,rfl,rfl,rfl⟩
 ·rw[no (by rw[d1];simp)]
  repeat' (first|refine zB rfl d1 ?_|refine zA rfl ?_|refine aA ?_|refine aJ rfl ?_)
  exact⟨rfl,_,rfl,rfl,rfl⟩
theorem a81 {m k:Mt}:m=k↔m.size=k.size∧m.mode=k.mode∧m.ch=k.ch:=by
 obtain⟨a,b,c⟩:=m
 obtain⟨d,e,f⟩:=k
 simp
theorem E1 (m k:Mt) (hm:m.ch.length < 1000000) (hk:k.ch.length < 1000000):aN Tryz.prog 82 [m.av,k.av] (.bool (decide (m=k))):=by
 intro M
 refine aC aF Tryz.func82 rfl (by decide) (by simp[Tryz.f82]) ?_
 have ki:=W1 m.ch k.ch .none .none (by omega) (by omega)
 cases d1:decide (m.size=k.size)
 ·rw[decide_eq_false (p:=m=k) (by rintro rfl;simp at d1)]
  repeat' (first|refine zB rfl d1 ?_|refine zA rfl ?_|refine aA ?_|refine aJ rfl ?_)
  exact⟨rfl,_,rfl,rfl,rfl⟩
 ·cases d2:decide (m.mode=k.mode)
  ·rw[decide_eq_false (p:=m=k) (by rintro rfl;simp at d2)]
   repeat' (first|refine zB rfl (by first|exact d1|exact d2) ?_|refine zA rfl ?_|refine aA ?_|refine aJ rfl ?_)
   exact⟨rfl,_,rfl,rfl,rfl⟩
  ·have e:decide (m=k)=decide (m.ch=k.ch):=by
    rw[decide_eq_decide,a81]
    simp at d1 d2
    simp[d1,d2]
   rw[e]
   repeat' (first|refine zB rfl (by first|exact d1|exact d2) ?_|refine zA rfl ?_|refine aA ?_|refine aJ rfl ?_|refine aD rfl ki ?_)
   exact⟨rfl,_,rfl,rfl,rfl⟩
theorem eF {s r:aG} {n:Nat} (h:bV s=some (n,r)):r.length < s.length∧n < 4294967296:=by
 cases s with
 |nil=>cases h
 |cons c q=>
  by_cases hc:4 < c.toNat∨q.length < c.toNat∨(q.take c.toNat).head?=some 0
  ·rw[fP hc] at h
   cases h
  ·rw[jJ hc] at h
   cases h
   refine⟨by rw[List.length_drop,List.length_cons];omega,uN 4 _ ?_⟩
   rw[List.length_take]
   omega
def iY (s:aG):Option (List Nat):=
 match h:bV s with
 |none=>if s=[] then some [] else none
 |some (n,r)=>(iY r).map (n::·)
termination_by s.length
decreasing_by exact (eF h).1
theorem mF:iY []=some []:=by
 rw[iY]
 rfl
theorem kL {s r:aG} {n:Nat} (h:bV s=some (n,r)):iY s=(iY r).map (n::·):=by
 rw[iY]
 split
 ·rename_i e
  rw[h] at e
  cases e
 ·rename_i e
  rw[h] at e
  cases e
  rfl
theorem mT {s:aG} (h:bV s=none) (hs:s≠[]):iY s=none:=by
 rw[iY]
 split
 ·rw[if_neg hs]
 ·rename_i e
  rw[h] at e
  cases e
def nI (l:List Nat):List Int:=l.map fun n:Nat=>(n:Int)
@[simp] theorem a9z (l:List Nat):(nI l).length=l.length:=by simp[nI]
def a3z:Option (List Nat)→AV
 |some l=>.tup [iA (nI l) .none,.bool true]
 |none=>.tup [iA [] .none,.bool false]
theorem GP (x:Option (List Nat)):aP (a3z x):=by
 cases x with
 |none=>exact aW (aZ (i9 _ (.inl rfl)) aL)
 |some l=>exact aW (aZ (i9 _ (.inl rfl)) aL)
theorem HJ (s:aG) (hs:s.length < 1000000):aN Tryz.prog 172 [.str s] (a3z (iY s)):=by
 refine aT (aY aR) (GP _) ?_
 refine aC aF Tryz.func172 rfl (by decide) (by simp[Tryz.f172]) ?_
 repeat' (first|refine zA rfl ?_|refine aA ?_|refine aJ rfl ?_)
 refine lV (fun c f N=>∃(q:aG) (out:List Nat) (g:Nat),c=q.length∧q.length+out.length≤s.length∧iY s=(iY q).map (out++·)∧N=tokM g∧f=⟨[(0,.str q),(4,iA (nI out) (.tok 0 g))],[]⟩) (k:=s.length) ⟨s,[],0,rfl,by simp,by cases iY s<;>rfl,rfl,rfl⟩ ((aM.tok 4 rfl (sz':=1) (.inr rfl)).trans (aM.le ?_ (cK rfl rfl))) ?_
 ·repeat (refine AF.le_cons rfl ?_)
  exact AF.le_nil rfl
 rintro c f N ⟨q,out,g,rfl,hql,hinv,rfl,rfl⟩
 have kq:=jB q (by omega)
 by_cases hq:q=[]
 ·subst hq
  have d1:decide ((0:Int) < (([]:aG).length:Int))=false:=rfl
  rw[mF] at hinv
  simp at hinv
  rw[hinv]
  repeat' (first|refine zB rfl d1 ?_|refine zA rfl ?_|refine aA ?_|refine aJ rfl ?_)
  exact⟨rfl,_,rfl,_,rfl,aH.tup2 (aH.untag (i9 _ (.inl rfl))) (aH.of_closed aL)⟩
 ·have hpos:0 < q.length:=List.length_pos_iff.2 hq
  have d1:decide ((0:Int) < (q.length:Int))=true:=by simp;omega
  cases hg:bV q with
  |none=>
   rw[hg] at kq
   rw[mT hg hq] at hinv
   rw[show iY s=none from hinv]
   repeat' (first|refine zB rfl d1 ?_|refine zA rfl ?_|refine aA ?_|refine aJ rfl ?_|refine aD rfl kq ?_)
   exact⟨rfl,_,rfl,_,rfl,aH.tup2 aH.nil (aH.of_closed aL)⟩
  |some p=>
   obtain⟨n,r⟩:=p
   rw[hg] at kq
   have hlt:=(eF hg).1
   rw[kL hg,Option.map_map] at hinv
   have ha:out.length < 1000000:=by omega
   unfold iA
   repeat' (first|refine zB rfl d1 ?_|refine zA rfl ?_|refine aA ?_|refine aJ rfl ?_|refine aD rfl kq ?_|refine zR rfl ?_|refine zP rfl rfl ?_)
   refine⟨r.length,_,_,hlt,⟨r,out++[n],g+1,rfl,by simp;omega,?_,rfl,rfl⟩,aM.le ?_ (cK rfl rfl)⟩
   ·rw[hinv]
    congr 1
    funext x
    simp
   ·have e:AV.sl 1 ((nI (out++[n])).map fun n=>AV.int .i64 n) (.tok 0 (g+1))=.sl 1 (((nI out).map fun n=>AV.int .i64 n)++[.int .i64 (n:Int)]) (.tok 0 (g+1)):=by simp[nI]
    rw[e]
    repeat (refine AF.le_cons rfl ?_)
    exact AF.le_nil rfl
theorem JN:∀(k:Nat) {s:aG} {L:List Nat},s.length≤k→iY s=some L→L.length≤s.length
 |k,s,L,hk,h=>by
  cases hg:bV s with
  |none=>
   by_cases hs:s=[]
   ·subst hs
    rw[mF] at h
    cases h
    simp
   ·rw[mT hg hs] at h
    cases h
  |some p=>
   obtain⟨n,r⟩:=p
   have hlt:=(eF hg).1
   rw[kL hg] at h
   cases k with
   |zero=>omega
   |succ k=>
    cases hr:iY r with
    |none=>rw[hr] at h;cases h
    |some q=>
     rw[hr] at h
     cases h
     have:=JN k (by omega) hr
     simp
     omega
def a5z (a b c:Nat) (l:List Nat):Mt×Int:=if c=l.length∧mV ⟨a,b,nI l⟩=true then (⟨a,b,nI l⟩,0) else (dA,30)
def GY:Option (List Nat)→Mt×Int
 |some (a::b::c::l)=>a5z a b c l
 |_=>(dA,30)
theorem vN {a b c:Nat} {l:List Nat} (hc:c=l.length) (hm:mV ⟨a,b,nI l⟩=true):GY (some (a::b::c::l))=(⟨a,b,nI l⟩,0):=if_pos ⟨hc,hm⟩
theorem mE {a b c:Nat} {l:List Nat} (h:c=l.length→mV ⟨a,b,nI l⟩=false):GY (some (a::b::c::l))=(dA,30):=if_neg (by rintro⟨hc,hm⟩;rw[h hc] at hm;cases hm)
def fM (s:aG):Mt×Int:=GY (iY s)
def gmA (x:Mt×Int):AV:=.tup [x.1.av,.int .i64 x.2]
theorem DU (x:Mt×Int):aP (gmA x):=aW (aZ (iB _) aB)
def w5 (k:Nat):List AV→List AV→Prop
 |[],[]=>True
 |x::l,y::m=>aH k x y∧w5 k l m
 |_,_=>False
theorem w5.len {k:Nat}:∀{l m:List AV},w5 k l m→l.length=m.length
 |[],[],_=>rfl
 |_::_,_::_,h=>congrArg (·+1) (w5.len h.2)
theorem w5.get {k:Nat}:∀{l m:List AV},w5 k l m→∀(i:Nat) (x y:AV),l[i]? =some x→m[i]? =some y→aH k x y
 |[],[],_,i,_,_,hx,_=>by simp at hx
 |a::l,b::m,h,0,x,y,hx,hy=>by cases hx;cases hy;exact h.1
 |a::l,b::m,h,i+1,x,y,hx,hy=>w5.get h.2 i x y hx hy
theorem aH.aggL {k:Nat} {l m:List AV} (h:w5 k l m):aH k (.agg l) (.agg m):=by
 intro μ F w v hr
 obtain⟨c,rfl,h1,h2,h3⟩:=hr.agg_inv
 refine .agg m c (h1.trans h.len) (fun i y u hy hu=>?_) h3
 have hi:i < l.length:=by rw[h.len];exact (List.getElem?_eq_some_iff.1 hy).1
 exact h.get i _ y (List.getElem?_eq_getElem hi) hy μ F w u (h2 i _ u (List.getElem?_eq_getElem hi) hu)
theorem sub_zero {k:Nat} {sz:Nat} {t:eI}:aH k (.agg [.int .i64 0,.int .i64 0,.sl sz [] t]) dA.av:=
 aH.aggL ⟨aH.of_closed aB,aH.of_closed aB,aH.nil,trivial⟩
theorem a0d (s:aG) (hs:s.length < 1000000):aN Tryz.prog 131 [.str s] (gmA (fM s)):=by
 refine aT (aY aR) (DU _) ?_
 refine aC aF Tryz.func131 rfl (by decide) (by simp[Tryz.f131]) ?_
 have kn:=HJ s hs
 unfold fM
 cases hn:iY s with
 |none=>
  rw[hn] at kn
  repeat' (first|refine zA rfl ?_|refine aA ?_|refine aJ rfl ?_|refine aD rfl kn ?_)
  exact⟨rfl,_,rfl,_,rfl,aH.tup2 sub_zero (aH.of_closed aB)⟩
 |some L=>
  rw[hn] at kn
  match L,hn,kn with
  |[],hn,kn=>
   repeat' (first|refine zA rfl ?_|refine aA ?_|refine aJ rfl ?_|refine aD rfl kn ?_)
   exact⟨rfl,_,rfl,_,rfl,aH.tup2 sub_zero (aH.of_closed aB)⟩
  |[a],hn,kn=>
   repeat' (first|refine zA rfl ?_|refine aA ?_|refine aJ rfl ?_|refine aD rfl kn ?_)
   exact⟨rfl,_,rfl,_,rfl,aH.tup2 sub_zero (aH.of_closed aB)⟩
  |[a,b],hn,kn=>
   repeat' (first|refine zA rfl ?_|refine aA ?_|refine aJ rfl ?_|refine aD rfl kn ?_)
   exact⟨rfl,_,rfl,_,rfl,aH.tup2 sub_zero (aH.of_closed aB)⟩
  |a::b::c::l,hn,kn=>
   have lL:(((nI (a::b::c::l)).map fun n=>AV.int .i64 n).length:Int)=((l.length+3:Nat):Int):=by simp;omega
   have hlen:l.length < 1000000:=(by have:=JN _ (Nat.le_refl _) hn;simp at this;omega)
   have d1:decide (((l.length+3:Nat):Int) < 3)=false:=by simp;omega
   have e1:IntKind.wrap .i64 (((l.length+3:Nat):Int) - 3)=(l.length:Int):=(Go.Ab.wrap_small (by omega) (by omega)).trans (by omega)
   have i0:(nI (a::b::c::l))[0]? =some (a:Int):=rfl
   have i1:(nI (a::b::c::l))[1]? =some (b:Int):=rfl
   have i2:(nI (a::b::c::l))[2]? =some (c:Int):=rfl
   have s3:(0:Int)≤3∧(3:Int)≤(((nI (a::b::c::l)).map fun n=>AV.int .i64 n).length:Int)∧(((nI (a::b::c::l)).map fun n=>AV.int .i64 n).length:Int)≤(((nI (a::b::c::l)).map fun n=>AV.int .i64 n).length:Int)∧(((nI (a::b::c::l)).map fun n=>AV.int .i64 n).take (((nI (a::b::c::l)).map fun n=>AV.int .i64 n).length:Int).toNat).drop (3:Int).toNat=(nI l).map fun n=>AV.int .i64 n:=by
    refine⟨by omega,by rw[lL];omega,Int.le_refl _,?_⟩
    rw[Int.toNat_natCast,List.take_length]
    rfl
   by_cases hc:c=l.length
   ·have d2:(!decide ((c:Int)=(l.length:Int)))=false:=by simp[hc]
    have km:=(FC ⟨a,b,nI l⟩ (by simpa using hlen)).sub (args:=[Mt.avT ⟨a,b,nI l⟩ (.tok 2 0)]) ⟨G3,trivial⟩
    cases hm:mV ⟨a,b,nI l⟩
    ·rw[hm] at km
     rw[mE (fun _=>hm)]
     repeat' (first|refine zB rfl (by first|exact d1|exact d2) ?_|refine zI rfl (by first|exact lL|exact e1) ?_|refine zA rfl ?_|refine aA ?_|refine aJ rfl ?_|refine aD rfl kn ?_|refine aD rfl km ?_|refine zX rfl (ixZ rfl i0) ?_|refine zX rfl (ixZ rfl i1) ?_|refine zX rfl (ixZ rfl i2) ?_|refine i5 aF rfl (s3) ?_|refine zQ rfl ?_|refine aO mixed [0,1,2,3,4,5,6,7,8] [.P,.P,.P,.P,.P,.P,.P,.E,.E] rfl rfl (by kernel_rfl) ?_|refine aO mixed [2,3,0,1,4,5,6] [.R,.R,.P,.P,.E,.R,.E] rfl rfl (by kernel_rfl) ?_)
     exact⟨rfl,_,rfl,_,rfl,aH.tup2 sub_zero (aH.of_closed aB)⟩
    ·rw[hm] at km
     rw[vN hc hm]
     repeat' (first|refine zB rfl (by first|exact d1|exact d2) ?_|refine zI rfl (by first|exact lL|exact e1) ?_|refine zA rfl ?_|refine aA ?_|refine aJ rfl ?_|refine aD rfl kn ?_|refine aD rfl km ?_|refine zX rfl (ixZ rfl i0) ?_|refine zX rfl (ixZ rfl i1) ?_|refine zX rfl (ixZ rfl i2) ?_|refine i5 aF rfl (s3) ?_|refine zQ rfl ?_|refine aO mixed [0,1,2,3,4,5,6,7,8] [.P,.P,.P,.P,.P,.P,.P,.E,.E] rfl rfl (by kernel_rfl) ?_|refine aO mixed [2,3,0,1,4,5,6] [.R,.R,.P,.P,.E,.R,.E] rfl rfl (by kernel_rfl) ?_)
     exact⟨rfl,_,rfl,_,rfl,aH.tup2 (aH.pre (G3 (m:=⟨a,b,nI l⟩) (t:=.tok 2 0)) (aH.of_closed (iB _))) (aH.of_closed aB)⟩
   ·have d2:(!decide ((c:Int)=(l.length:Int)))=true:=by simp;omega
    rw[mE (fun h=>absurd h hc)]
    repeat' (first|refine zB rfl (by first|exact d1|exact d2) ?_|refine zI rfl (by first|exact lL|exact e1) ?_|refine zA rfl ?_|refine aA ?_|refine aJ rfl ?_|refine aD rfl kn ?_|refine zX rfl (ixZ rfl i2) ?_)
    exact⟨rfl,_,rfl,_,rfl,aH.tup2 sub_zero (aH.of_closed aB)⟩
def bW (v:aG):Mt×Bool×Int:=
 match v with
 |[]=>(dA,false,30)
 |c::r=>if c=0∧r=[] then (dA,true,0) else if c=1 then ((fM r).1,false,(fM r).2) else (dA,false,30)
def rmA (x:Mt×Bool×Int):AV:=.tup [x.1.av,.bool x.2.1,.int .i64 x.2.2]
theorem pZ (x:Mt×Bool×Int):aP (rmA x):=aW (cD (iB _) aL aB)
theorem A5 (v:aG) (hv:v.length < 1000000):aN Tryz.prog 77 [.str v] (rmA (bW v)):=by
 refine aT (aY aR) (pZ _) ?_
 refine aC aF Tryz.func77 rfl (by decide) (by simp[Tryz.f77]) ?_
 cases v with
 |nil=>
  have d1:(([]:aG)==[0])=false:=rfl
  repeat' (first|refine zB rfl d1 ?_|refine zA rfl ?_|refine aA ?_|refine aJ rfl ?_)
  exact⟨rfl,_,rfl,_,rfl,aH.tup3 sub_zero (aH.of_closed aL) (aH.of_closed aB)⟩
 |cons c r=>
  have d2:decide ((((c::r):aG).length:Int)=0)=false:=by simp;omega
  by_cases h0:c=0∧r=[]
  ·obtain⟨rfl,rfl⟩:=h0
   have d1:(([0]:aG)==[0])=true:=rfl
   repeat' (first|refine zB rfl d1 ?_|refine zA rfl ?_|refine aA ?_|refine aJ rfl ?_)
   exact⟨rfl,_,rfl,_,rfl,aH.tup3 sub_zero (aH.of_closed aL) (aH.of_closed aB)⟩
  ·have d1:((c::r:aG)==[0])=false:=by
    rw[beq_eq_false_iff_ne]
    intro h
    cases h
    exact h0 ⟨rfl,rfl⟩
   by_cases h1:c=1
   ·subst h1
    have d3:(!decide (((1:UInt8).toNat:Int)=1))=false:=rfl
    have e:bW (1::r)=((fM r).1,false,(fM r).2):=by
     show (if (1:UInt8)=0∧r=[] then (dA,true,(0:Int)) else if (1:UInt8)=1 then ((fM r).1,false,(fM r).2) else (dA,false,30))=_
     rw[if_neg h0,if_pos rfl]
    have kr:=a0d r (by simp at hv;omega)
    have s1:(0:Int)≤1∧(1:Int)≤((1::r:aG).length:Int)∧((1::r:aG).length:Int)≤((1::r:aG).length:Int)∧((1::r:aG).take ((1::r:aG).length:Int).toNat).drop (1:Int).toNat=r:=by
     refine⟨by omega,by simp;omega,Int.le_refl _,?_⟩
     rw[Int.toNat_natCast,List.take_length]
     rfl
    rw[e]
    generalize fM r=x at kr
    obtain⟨m,e⟩:=x
    repeat' (first|refine zB rfl d1 ?_|refine zA rfl ?_|refine aA ?_|refine aJ rfl ?_|refine aD rfl kr ?_|refine m8 aF rfl (⟨Int.le_refl 0,rfl⟩) ?_|refine i6 aF rfl (s1) ?_)
    exact⟨rfl,_,rfl,_,rfl,aH.of_closed (pZ (m,false,e))⟩
   ·have d3:(!decide ((c.toNat:Int)=1))=true:=by
     have:¬(c.toNat:Int)=1:=by
      intro h
      exact h1 (UInt8.toNat_inj.1 (by show c.toNat=1;omega))
     simp only[this,decide_false,Bool.not_false]
    have e:bW (c::r)=(dA,false,30):=(if_neg h0).trans (if_neg h1)
    rw[e]
    repeat' (first|refine zB rfl (by first|exact d1|exact d2|exact d3) ?_|refine zA rfl ?_|refine aA ?_|refine aJ rfl ?_|refine m8 aF rfl (⟨Int.le_refl 0,rfl⟩) ?_)
    exact⟨rfl,_,rfl,_,rfl,aH.tup3 sub_zero (aH.of_closed aL) (aH.of_closed aB)⟩
end Go.Proofs.YthnhbmlefiafaaaGreatDoor
namespace Go.Ab
open Go.RowKit
section
variable {P:Program} {ops:Array Oper} {cls:Nat→fZ} {Q:AX→AF→aI→Prop} {ds:List bH}
inductive BH where
 |fin (o:List Nat)
 |two (pre:List Nat) (a b:Nat) (p q:BH)
def BH.size:BH→Nat
 |.fin o=>o.length
 |.two pre _ _ p _=>pre.length+(p.size+1)
structure sX (A B:Prop):Prop where
 l:A
 r:B
def lF (K:List (Nat×AV)→aI→Prop) (Q:AX→AF→aI→Prop):AX→AF→aI→Prop
 |.normal,f,M=>K f.t M
 |x,f,M=>Q x f M
def TR (P:Program) (ops:Array Oper) (cls:Nat→fZ) (Q:AX→AF→aI→Prop) (ds:List bH):BH→List (Nat×AV)→aI→Prop
 |.fin o,t,M=>DW P ops cls Q ds o t M
 |.two pre a b p q,t,M=>DW P ops cls (lF (fun t M=>sX (DW P ops cls (lF (TR P ops cls Q ds p) Q) ds [a] t M) (DW P ops cls (lF (TR P ops cls Q ds q) Q) ds [b] t M)) Q) ds pre t M
def GO (ops:Array Oper) (cls:Nat→fZ):List Nat→Array Bool→Option (Array Bool)
 |[],listed=>some listed
 |i::l,listed=>if (Region.ready .any ops listed).contains i&&FJ ops cls i listed then GO ops cls l (listed.setIfInBounds i true) else none
def pOK (ops:Array Oper) (cls:Nat→fZ):BH→Array Bool→Bool
 |.fin o,listed=>dOK ops cls o listed
 |.two pre a b p q,listed=>match GO ops cls pre listed with
  |none=>false
  |some l=>((Region.ready .any ops l).all fun j=>j==a||j==b)&&!(Region.ready .any ops l).isEmpty&&(p.size==q.size)&&pOK ops cls p (l.setIfInBounds a true)&&pOK ops cls q (l.setIfInBounds b true)
theorem pQ {i:Nat} {l:List Nat} {t:List (Nat×AV)} {M:aI} {K:Fr→aI→Prop} (h:MY P ops cls Q ds (i::l) t M) (hk:∀t' N,MY P ops cls Q ds l t' N→K (jT t') N):
  OH P ops cls (fun v M'=>Q (.panic v) ⟨dE ds,ds⟩ M') i K (jT t) M:=by
 unfold MY at h
 unfold OH
 cases hoi:ops[i]? with
 |none=>simp only[hoi] at h
 |some oi=>
  simp only[hoi] at h ⊢
  rw[zW (ds:=ds)]
  split at h
  ·rename_i hw
   rw[hw]
   refine SC.mono (SC.congr h fun y _=>IM t y) fun u N _ hu=>?_
   have:=hk _ N hu
   rw[tS] at this
   exact this
  ·rename_i hw
   rw[hw]
   have:=hk _ M h
   rw[tS] at this
   exact this
  ·exact h.elim
theorem vV {K:List (Nat×AV)→aI→Prop} {n:Nat} {l:Array Bool} (hK:∀(t:List (Nat×AV)) (M:aI),K t M→r7 P ops cls (fun v M'=>Q (.panic v) ⟨dE ds,ds⟩ M') (fun φ M=>∃t,jT t=φ∧Q .normal ⟨t,ds⟩ M) n l (jT t) M):
  ∀(ord:List Nat) (listed:Array Bool) (t:List (Nat×AV)) (M:aI),GO ops cls ord listed=some l→MY P ops cls (lF K Q) ds ord t M→
  r7 P ops cls (fun v M'=>Q (.panic v) ⟨dE ds,ds⟩ M') (fun φ M=>∃t,jT t=φ∧Q .normal ⟨t,ds⟩ M) (ord.length+n) listed (jT t) M
 |[],listed,t,M,hk,h=>by
  cases hk
  rw[show ([]:List Nat).length+n=n from by simp]
  exact hK t M h
 |i::r,listed,t,M,hk,h=>by
  unfold GO at hk
  split at hk
  case isFalse=>cases hk
  rename_i hc
  simp only[Bool.and_eq_true,List.contains_iff_mem] at hc
  obtain⟨h1,h2⟩:=hc
  have h3:=hk
  unfold FJ at h2
  split at h2
  case h_1=>cases h2
  rename_i oi hoi
  simp only[Bool.and_eq_true] at h2
  obtain⟨⟨h4,h5⟩,h6⟩:=h2
  have hall:=List.all_eq_true.1 h6
  unfold a4y at h5
  simp only[Bool.and_eq_true,beq_iff_eq] at h5
  obtain⟨hsz,h5⟩:=h5
  rw[show (i::r).length+n=(r.length+n)+1 from by simp;omega]
  refine CD hoi (R:=fun j=>(XY ops i listed).getD j false) ?_ (r.length+n) listed (jT t) M ?_ h1 ?_ ?_
  ·intro j oj hji hoj hpre
   have hj:j < ops.size:=(Array.getElem?_eq_some_iff.1 hoj).1
   have:=(List.all_eq_true.1 h4) j (List.mem_range.2 hj)
   simp only[Bool.or_eq_true,beq_iff_eq,Bool.not_eq_true'] at this
   rcases this with (hh|hh)|hh
   ·exact absurd hh hji
   ·exact hh
   ·exfalso
    rw[hoj] at hh
    simp only[Option.map_some,Option.getD_some] at hh
    have ht:(oj.after.all fun e=>!Region.binds .any e||(XY ops i listed).getD e.on false)=true:=by
     rw[Array.all_eq_true_iff_forall_mem]
     intro e he
     cases hb:Region.binds .any e with
     |false=>rfl
     |true=>simpa using hpre e he hb
    rw[ht] at hh
    cases hh
  ·intro j hj
   have hlt:j < ops.size:=by
    rcases Nat.lt_or_ge j ops.size with h|h
    ·exact h
    ·rw[Array.getD_eq_getD_getElem?,Array.getElem?_eq_none (by omega)] at hj
     cases hj
   have:=(List.all_eq_true.1 h5) j (List.mem_range.2 hlt)
   simp only[hj,Bool.not_true,Bool.false_or] at this
   exact this
  ·intro j oj hoj hji hR hun
   have hj:j < ops.size:=(Array.getElem?_eq_some_iff.1 hoj).1
   have:=hall j (List.mem_range.2 hj)
   simp only[hR,hun,hoj,Bool.not_true,Bool.or_false,Bool.or_eq_true,beq_iff_eq,Bool.and_eq_true] at this
   rcases this with hh|hh
   ·first|exact absurd hh hji|(rcases hh with hh|hh<;>first|exact absurd hh hji|cases hh)
   ·exact hh
  ·exact pQ (Q:=lF K Q) h fun t' N ht=>vV hK r _ t' N h3 ht
theorem kK:∀(p:BH) (listed:Array Bool) (t:List (Nat×AV)) (M:aI),pOK ops cls p listed=true→TR P ops cls Q ds p t M→
  r7 P ops cls (fun v M'=>Q (.panic v) ⟨dE ds,ds⟩ M') (fun φ M=>∃t,jT t=φ∧Q .normal ⟨t,ds⟩ M) p.size listed (jT t) M
 |.fin o,listed,t,M,hk,h=>tT o listed t M hk h.run
 |.two pre a b p q,listed,t,M,hk,h=>by
  unfold pOK at hk
  split at hk
  case h_1=>cases hk
  rename_i l hl
  simp only[Bool.and_eq_true,List.all_eq_true,Bool.or_eq_true,beq_iff_eq,Bool.not_eq_true'] at hk
  obtain⟨⟨⟨⟨h1,h2⟩,h0⟩,h3⟩,h4⟩:=hk
  refine vV (n:=p.size+1) (l:=l) ?_ pre listed t M hl h.run
  rintro t M ⟨g1,g2⟩
  refine⟨fun he=>(by rw[he] at h2;cases h2),fun j hj=>?_⟩
  rcases h1 j hj with rfl|rfl
  ·exact pQ (Q:=lF (TR P ops cls Q ds p) Q) g1.run fun t' N ht=>kK p _ t' N h3 ht
  ·rw[h0]
   exact pQ (Q:=lF (TR P ops cls Q ds q) Q) g2.run fun t' N ht=>kK q _ t' N h4 ht
theorem iJ {r:Option Nat} {n id:Nat} {t:List (Nat×AV)} {M:aI} (hm:P.follows .mixedOrders=true) (p:BH) (cl:List fZ) (hd0:(ops.toList.all fun o=>iR ds o n)=true) (hl:p.size=ops.size)
  (hk:pOK ops (fun i=>cl.getD i .E) p (Array.replicate ops.size false)=true) (h:TR P ops (fun i=>cl.getD i .E) Q ds p t M):W r P n (.region id ops true) Q ⟨t,ds⟩ M:=by
 have hd:(ops.all fun o=>iR ds o n)=true:=by rw[←Array.all_toList];exact hd0
 refine⟨fun μ F w a hg hr=>?_⟩
 refine wpIn_region_any hm ?_
 have hb:Below w.heap.size w {w with drawn:=w.drawn+1}:=⟨rfl,rfl,rfl,Nat.le_refl _,fun _ _=>rfl⟩
 have hev:=eB.of_below μ hb
 have hany:=kK p _ t M hk h
 rw[hl] at hany
 have hrf:rY μ F w n (jT t) ds a:=⟨hr.size,hr.tmps,hr.defs,hr.kept⟩
 refine vE (r:=r) (ds:=ds) hd (F:=F) ops.size _ (jT t) M μ {w with drawn:=w.drawn+1} a (hg.below hb) (hrf.evo hev) ?_ ?_ hany
 ·rintro μ' φ' M' w' a' e1 e2 e3 ⟨t',rfl,hq⟩
  exact⟨μ',⟨t',ds⟩,M',.normal,hev.trans e1,e2,⟨e3.size,e3.tmps,e3.defs,e3.kept⟩,trivial,hq⟩
 ·intro μ' φ' M' w' a' v u e1 e2 e3 e4 hq
  exact⟨μ',⟨dE ds,ds⟩,M',.panic u,hev.trans e1,e2,⟨e3.size,pG e3.kept,e3.defs,e3.kept⟩,⟨v,rfl,e4⟩,hq⟩
end
end Go.Ab
namespace Go.Proofs.YthnhbmlefiafaaaGreatDoor
open Go.Ab
def nJ (e:Int):AV:=.iface 27 (.int .i64 e)
theorem eJ (e:Int):aP (nJ e):=nE aB
def lG (s:aG) (e:dG) (d:List AV):Prop:=
 match bV s with
 |some (n,r)=>e=.ret (.int .i64 (n:Int))∧d=[.str r]
 |none=>e=.pan (nJ 30)∧d=[.str s]
theorem a02 (s:aG) (hs:s.length < 1000000):aS Tryz.prog 171 [.ptr 0 0] ⟨1,[(0,.cells [.str s])]⟩ (fun e N=>N.next=1∧∃d,N.get 0=some (.cells d)∧lG s e d):=by
 refine aC aF Tryz.func171 rfl (by decide) (by simp[Tryz.f171]) ?_
 have kg:=kG s (by omega)
 unfold lG
 cases hg:bV s with
 |none=>
  rw[hg] at kg
  repeat' (first|refine zA rfl ?_|refine aA ?_|refine aJ rfl ?_|refine aD rfl kg ?_)
  refine fI rfl rfl rfl rfl rfl ?_
  exact⟨rfl,rfl,_,rfl,rfl,rfl⟩
 |some p=>
  obtain⟨n,r⟩:=p
  rw[hg] at kg
  repeat' (first|refine zA rfl ?_|refine aA ?_|refine aJ rfl ?_|refine aD rfl kg ?_)
  exact⟨rfl,_,rfl,rfl,_,rfl,rfl,rfl⟩
theorem C7 {M:aI} {id:Nat} {s:aG} (hM:M.get id=some (.cells [.str s])) (hlt:id < M.next) (hs:s.length < 1000000):
  aS Tryz.prog 171 [.ptr id 0] M fun e N=>∃d,lG s e d∧N=M.set id (.cells d):=by
 refine aS.frame1 id hM hlt (aY aR) (a02 s hs) ⟨lZ.ptr rfl,trivial⟩ ?_
 intro e d h
 unfold lG at h
 cases hg:bV s with
 |none=>
  rw[hg] at h
  obtain⟨rfl,rfl⟩:=h
  refine⟨eJ 30,aY aR,_,?_,rfl⟩
  unfold lG
  rw[hg]
  exact⟨rfl,rfl⟩
 |some p=>
  obtain⟨n,r⟩:=p
  rw[hg] at h
  obtain⟨rfl,rfl⟩:=h
  refine⟨aB,aY aR,_,?_,rfl⟩
  unfold lG
  rw[hg]
  exact⟨rfl,rfl⟩
theorem lJ {M:aI} {id:Nat} {s r:aG} {n:Nat} (hg:bV s=some (n,r)) (hM:M.get id=some (.cells [.str s])) (hlt:id < M.next) (hs:s.length < 1000000):
  aS Tryz.prog 171 [.ptr id 0] M fun e N=>e=.ret (.int .i64 (n:Int))∧N=M.set id (.cells [.str r]):=by
 refine (C7 hM hlt hs).mono ?_
 rintro e N ⟨d,h,rfl⟩
 unfold lG at h
 rw[hg] at h
 obtain⟨rfl,rfl⟩:=h
 exact⟨rfl,rfl⟩
theorem lI {M:aI} {id:Nat} {s:aG} (hg:bV s=none) (hM:M.get id=some (.cells [.str s])) (hlt:id < M.next) (hs:s.length < 1000000):
  aS Tryz.prog 171 [.ptr id 0] M fun e N=>e=.pan (nJ 30)∧N=M.set id (.cells [.str s]):=by
 refine (C7 hM hlt hs).mono ?_
 rintro e N ⟨d,h,rfl⟩
 unfold lG at h
 rw[hg] at h
 obtain⟨rfl,rfl⟩:=h
 exact⟨rfl,rfl⟩
def At (s:aG) (l:List Nat) (q:aG):Prop:=iY s=(iY q).map (l++·)
theorem a6i (s:aG):At s [] s:=by
 unfold At
 cases iY s<;>rfl
theorem xT {s q r:aG} {l:List Nat} {n:Nat} (h:At s l q) (hg:bV q=some (n,r)):At s (l++[n]) r:=by
 unfold At at*
 rw[h,kL hg,Option.map_map]
 congr 1
 funext x
 simp
theorem SB {s q:aG} {l:List Nat} (h:At s l q) (hg:bV q=none) (hl:∀a b c m,l=a::b::c::m→c≠m.length):fM s=(dA,30):=by
 unfold fM
 unfold At at h
 rw[h]
 by_cases hq:q=[]
 ·subst hq
  rw[mF]
  match l,hl with
  |[],_=>rfl
  |[_],_=>rfl
  |[_,_],_=>rfl
  |a::b::c::m,hl=>
   simp only[Option.map_some,List.append_nil]
   exact mE fun e=>absurd e (hl a b c m rfl)
 ·rw[mT hg hq]
  rfl
theorem T2 {s q:aG} {a b c:Nat} (h:At s [a,b,c] q) (hc:16 < c):fM s=(dA,30):=by
 unfold fM
 unfold At at h
 rw[h]
 cases iY q with
 |none=>rfl
 |some m=>
  refine mE fun e=>?_
  unfold mV
  have:¬m.length≤16:=by
   have e':c=m.length:=e
   omega
  simp[this]
theorem T6 {s q:aG} {a b c:Nat} {m:List Nat} (h:At s (a::b::c::m) q) (hc:c=m.length) (hq:q≠[]):fM s=(dA,30):=by
 unfold fM
 unfold At at h
 rw[h]
 cases hn:iY q with
 |none=>rfl
 |some k=>
  have hk:k≠[]:=by
   rintro rfl
   cases hg:bV q with
   |none=>rw[mT hg hq] at hn;cases hn
   |some p=>
    obtain⟨n,r⟩:=p
    rw[kL hg] at hn
    cases hr:iY r<;>rw[hr] at hn<;>cases hn
  have hpos:=List.length_pos_iff.2 hk
  refine mE fun e=>?_
  have e':c=(m++k).length:=e
  rw[List.length_append] at e'
  omega
theorem X7 {s:aG} {a b c:Nat} {m:List Nat} (h:At s (a::b::c::m) []):fM s=GY (some (a::b::c::m)):=by
 unfold fM
 unfold At at h
 rw[h,mF]
 simp
end Go.Proofs.YthnhbmlefiafaaaGreatDoor
