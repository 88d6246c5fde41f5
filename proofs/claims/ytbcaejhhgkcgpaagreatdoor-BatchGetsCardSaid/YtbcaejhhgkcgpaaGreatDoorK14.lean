/- Parts of the proof, one behind the other. No further condition. -/
import Derived.Test.YtbcaejhhgkcgpaaGreatDoorK13
import Derived.MapKept
import Derived.Maps.RangeRun
set_option linter.unusedVariables false
set_option linter.unusedSimpArgs false
namespace Go.Proofs.YtbcaejhhgkcgpaaGreatDoor
open Go.Ab
def badB (b:UInt8):Bool:=b==47||b==0
theorem isNameB_eq (s:Bytes) (h:s.any badB=false):isNameB s=(decide (1≤(s.length:Int))&&decide ((s.length:Int)≤30)&&!(s==[46])&&!(s==[46,46])):=by
 unfold isNameB
 have h':(s.any fun b=>b==47||b==0)=false:=h
 rw[h']
 have e1:(!(s==[]))=decide (1≤(s.length:Int)):=by
  cases s with
  |nil=>rfl
  |cons b l=>simp;omega
 have e2:decide (s.length≤30)=decide ((s.length:Int)≤30):=decide_eq_decide.2 (by omega)
 rw[e1,e2]
 simp
set_option maxRecDepth 100000 in
theorem refName_ok (s:Bytes) (hs:s.length < 1000000):APure Tryz.prog 215 [.str s] (.bool (isNameB s)):=by
 intro M
 refine acalls_of tabOK Tryz.func215 rfl (by decide) (by simp[Tryz.f215]) ?_
 repeat' (first|refine DW_A tabs rfl ?_|refine DW_nil ?_|refine W_A rfl ?_)
 refine W_count s.length (fun i f N=>N=M∧(s.take i).any badB=false∧f=⟨[(0,.str s),(3,.int .i64 (i:Int))],[]⟩) (Nat.zero_le _) ⟨rfl,by simp,rfl⟩ (Joint.le ?_ (Mem.le_refl _)) ?_
 ·skip
  repeat (refine AF.le_cons rfl ?_)
  exact AF.le_nil rfl
 ·rintro i f N hi ⟨rfl,hpre,rfl⟩
  by_cases h1:i < s.length
  ·have d1:decide ((i:Int) < (s.length:Int))=true:=by simp;omega
   have hx:s[i]? =some s[i]:=List.getElem?_eq_getElem h1
   have fi:=wrap_succ (i:=i) (by omega)
   have ht:=take_succ hx
   generalize s[i]=b at hx ht
   have hbad:∀{c:UInt8},b=c→badB c=true→isNameB s=false:=by
    rintro c rfl hc
    have h:(s.any fun b=>b==47||b==0)=true:=List.any_eq_true.2 ⟨b,List.mem_of_getElem? hx,hc⟩
    unfold isNameB
    rw[h]
    simp
   by_cases h2:b=47
   ·have d2:decide ((b.toNat:Int)=47)=true:=by subst h2;rfl
    rw[hbad h2 rfl]
    repeat' (first|refine DW_VB tabs rfl d1 ?_|refine DW_VI tabs rfl fi ?_|refine DW_A tabs rfl ?_|refine DW_nil ?_|refine W_A rfl ?_)
    refine DW_byte tabOK rfl rfl rfl rfl rfl rfl rfl rfl (Int.natCast_nonneg _) (c:=b) (by simpa using hx) ?_
    repeat' (first|refine DW_VB tabs rfl d2 ?_|refine DW_VI tabs rfl fi ?_|refine DW_A tabs rfl ?_|refine DW_nil ?_|refine W_A rfl ?_)
    exact⟨rfl,_,rfl,rfl,rfl⟩
   ·have d2:decide ((b.toNat:Int)=47)=false:=by
     simp only[decide_eq_false_iff_not]
     intro h
     apply h2
     apply UInt8.toNat_inj.1
     have:(47:UInt8).toNat=47:=rfl
     omega
    by_cases h3:b=0
    ·have d3:decide ((b.toNat:Int)=0)=true:=by subst h3;rfl
     rw[hbad h3 rfl]
     repeat' (first|refine DW_VB tabs rfl d1 ?_|refine DW_VI tabs rfl fi ?_|refine DW_A tabs rfl ?_|refine DW_nil ?_|refine W_A rfl ?_)
     refine DW_byte tabOK rfl rfl rfl rfl rfl rfl rfl rfl (Int.natCast_nonneg _) (c:=b) (by simpa using hx) ?_
     repeat' (first|refine DW_VB tabs rfl d2 ?_|refine DW_VI tabs rfl fi ?_|refine DW_A tabs rfl ?_|refine DW_nil ?_|refine W_A rfl ?_)
     refine DW_byte tabOK rfl rfl rfl rfl rfl rfl rfl rfl (Int.natCast_nonneg _) (c:=b) (by simpa using hx) ?_
     repeat' (first|refine DW_VB tabs rfl d3 ?_|refine DW_VI tabs rfl fi ?_|refine DW_A tabs rfl ?_|refine DW_nil ?_|refine W_A rfl ?_)
     exact⟨rfl,_,rfl,rfl,rfl⟩
    ·have d3:decide ((b.toNat:Int)=0)=false:=by
      simp only[decide_eq_false_iff_not]
      intro h
      apply h3
      apply UInt8.toNat_inj.1
      have:(0:UInt8).toNat=0:=rfl
      omega
     repeat' (first|refine DW_VB tabs rfl d1 ?_|refine DW_VI tabs rfl fi ?_|refine DW_A tabs rfl ?_|refine DW_nil ?_|refine W_A rfl ?_)
     refine DW_byte tabOK rfl rfl rfl rfl rfl rfl rfl rfl (Int.natCast_nonneg _) (c:=b) (by simpa using hx) ?_
     repeat' (first|refine DW_VB tabs rfl d2 ?_|refine DW_VI tabs rfl fi ?_|refine DW_A tabs rfl ?_|refine DW_nil ?_|refine W_A rfl ?_)
     refine DW_byte tabOK rfl rfl rfl rfl rfl rfl rfl rfl (Int.natCast_nonneg _) (c:=b) (by simpa using hx) ?_
     repeat' (first|refine DW_VB tabs rfl d3 ?_|refine DW_VI tabs rfl fi ?_|refine DW_A tabs rfl ?_|refine DW_nil ?_|refine W_A rfl ?_)
     refine⟨h1,_,_,⟨rfl,?_,rfl⟩,Joint.le ?_ (Mem.le_refl _)⟩
     ·rw[ht,List.any_append,hpre]
      simp[badB,h2,h3]
     ·skip
      repeat (refine AF.le_cons rfl ?_)
      exact AF.le_nil rfl
  ·have d1:decide ((i:Int) < (s.length:Int))=false:=by simp;omega
   have hl2:s.take i=s:=List.take_of_length_le (by omega)
   rw[hl2] at hpre
   rw[isNameB_eq s hpre]
   cases g1:decide (1≤(s.length:Int))
   ·repeat' (first|refine DW_VB tabs rfl (by first|exact d1|exact g1) ?_|refine DW_A tabs rfl ?_|refine DW_nil ?_|refine W_A rfl ?_)
    exact⟨rfl,_,rfl,rfl,rfl⟩
   ·cases g2:decide ((s.length:Int)≤30)
    ·repeat' (first|refine DW_VB tabs rfl (by first|exact d1|exact g1|exact g2) ?_|refine DW_A tabs rfl ?_|refine DW_nil ?_|refine W_A rfl ?_)
     exact⟨rfl,_,rfl,rfl,rfl⟩
    ·cases g3:!(s==[46])
     ·repeat' (first|refine DW_VB tabs rfl (by first|exact d1|exact g1|exact g2|exact g3) ?_|refine DW_A tabs rfl ?_|refine DW_nil ?_|refine W_A rfl ?_)
      exact⟨rfl,_,rfl,rfl,rfl⟩
     ·repeat' (first|refine DW_VB tabs rfl (by first|exact d1|exact g1|exact g2|exact g3) ?_|refine DW_A tabs rfl ?_|refine DW_nil ?_|refine W_A rfl ?_)
      exact⟨rfl,_,rfl,rfl,rfl⟩
def namesB (s:Bytes):List Bytes×Bool:=if s=[] then ([],true) else if (splitOn 47 s).all isNameB=true then (splitOn 47 s,decide (s.length≤100)) else ([],false)
theorem namesB_is (s:Bytes):(namesB s).2=isPathB s:=by
 unfold namesB isPathB
 by_cases h:s=[]
 ·simp[h]
 ·rw[if_neg h]
  cases h2:(splitOn 47 s).all isNameB
  ·simp[h]
  ·simp[h]
def namesA (l:List Bytes×Bool):AV:=.tup [.sl 1 (l.1.map .str) .none,.bool l.2]
theorem closed_names (l:List Bytes×Bool):Closed (namesA l):=closed_tup (closed2 closed_strs closed_bool)
set_option maxRecDepth 100000 in
theorem names_ok (s:Bytes) (hs:s.length < 1000000):APure Tryz.prog 174 [.str s] (namesA (namesB s)):=by
 refine pure_sub (closed1 closed_str) (closed_names _) ?_
 refine acalls_of tabOK Tryz.func174 rfl (by decide) (by simp[Tryz.f174]) ?_
 have k:=parts_ok s hs
 have kl:=splitOn_len 47 s
 unfold namesB
 by_cases h1:s=[]
 ·have d0:(s==[])=true:=by simp[h1]
  rw[if_pos h1]
  repeat' (first|refine DW_VB tabs rfl d0 ?_|refine DW_A tabs rfl ?_|refine DW_nil ?_|refine W_A rfl ?_)
  exact⟨rfl,_,rfl,_,rfl,SubC.tup2 SubC.nil (SubC.of_closed closed_bool)⟩
 ·have d0:(s==[])=false:=by simp[h1]
  rw[if_neg h1]
  generalize splitOn 47 s=l at k kl
  have la:((l.map AV.str).length:Int)=(l.length:Int):=by simp
  repeat' (first|refine DW_VB tabs rfl d0 ?_|refine DW_A tabs rfl ?_|refine DW_nil ?_|refine W_A rfl ?_)
  refine DW_pure rfl rfl rfl rfl rfl k ?_
  repeat' (first|refine DW_VI tabs rfl la ?_|refine DW_A tabs rfl ?_|refine DW_nil ?_|refine W_A rfl ?_)
  refine W_count l.length (fun i f N=>N=⟨0,[]⟩∧(l.take i).all isNameB=true∧f=⟨[(0,.str s),(4,.sl 1 (l.map AV.str) .none),(5,.int .i64 (i:Int))],[]⟩) (Nat.zero_le _) ⟨rfl,by simp,rfl⟩ (Joint.le ?_ (Mem.le_refl _)) ?_
  ·skip
   repeat (refine AF.le_cons rfl ?_)
   exact AF.le_nil rfl
  ·rintro i f N hi ⟨rfl,hpre,rfl⟩
   by_cases h2:i < l.length
   ·have d1:decide ((i:Int) < (l.length:Int))=true:=by simp;omega
    have hx:l[i]? =some l[i]:=List.getElem?_eq_getElem h2
    have fi:=wrap_succ (i:=i) (by omega)
    have ht:=take_succ hx
    generalize l[i]=e at hx ht
    have he:=kl.2 e (List.mem_of_getElem? hx)
    have ke:=refName_ok e (by omega)
    cases h3:isNameB e
    ·have hall:¬l.all isNameB=true:=by
      rw[List.all_eq_true]
      intro h
      rw[h e (List.mem_of_getElem? hx)] at h3
      cases h3
     rw[h3] at ke
     rw[if_neg hall]
     repeat' (first|refine DW_VB tabs rfl d1 ?_|refine DW_VI tabs rfl (by first|exact la|exact fi) ?_|refine DW_A tabs rfl ?_|refine DW_nil ?_|refine W_A rfl ?_)
     refine DW_ix tabOK rfl (ixN hx) ?_
     repeat' (first|refine DW_VB tabs rfl d1 ?_|refine DW_VI tabs rfl (by first|exact la|exact fi) ?_|refine DW_A tabs rfl ?_|refine DW_nil ?_|refine W_A rfl ?_)
     refine DW_pure rfl rfl rfl rfl rfl ke ?_
     repeat' (first|refine DW_VI tabs rfl (by first|exact la|exact fi) ?_|refine DW_A tabs rfl ?_|refine DW_nil ?_|refine W_A rfl ?_)
     exact⟨rfl,_,rfl,_,rfl,SubC.tup2 SubC.nil (SubC.of_closed closed_bool)⟩
    ·rw[h3] at ke
     repeat' (first|refine DW_VB tabs rfl d1 ?_|refine DW_VI tabs rfl (by first|exact la|exact fi) ?_|refine DW_A tabs rfl ?_|refine DW_nil ?_|refine W_A rfl ?_)
     refine DW_ix tabOK rfl (ixN hx) ?_
     repeat' (first|refine DW_VB tabs rfl d1 ?_|refine DW_VI tabs rfl (by first|exact la|exact fi) ?_|refine DW_A tabs rfl ?_|refine DW_nil ?_|refine W_A rfl ?_)
     refine DW_pure rfl rfl rfl rfl rfl ke ?_
     repeat' (first|refine DW_VI tabs rfl (by first|exact la|exact fi) ?_|refine DW_A tabs rfl ?_|refine DW_nil ?_|refine W_A rfl ?_)
     refine⟨h2,_,_,⟨rfl,?_,rfl⟩,Joint.le ?_ (Mem.le_refl _)⟩
     ·rw[ht,List.all_append,hpre]
      simp[h3]
     ·skip
      repeat (refine AF.le_cons rfl ?_)
      exact AF.le_nil rfl
   ·have d1:decide ((i:Int) < (l.length:Int))=false:=by simp;omega
    have hl2:l.take i=l:=List.take_of_length_le (by omega)
    rw[hl2] at hpre
    rw[if_pos hpre]
    repeat' (first|refine DW_VB tabs rfl d1 ?_|refine DW_VI tabs rfl la ?_|refine DW_A tabs rfl ?_|refine DW_nil ?_|refine W_A rfl ?_)
    refine⟨rfl,_,rfl,_,rfl,SubC.tup2 (SubC.of_closed closed_strs) ?_⟩
    rw[show decide (s.length≤100)=decide ((s.length:Int)≤100) from decide_eq_decide.2 (by omega)]
    exact SubC.of_closed closed_bool
set_option maxRecDepth 100000 in
theorem refIs_ok (s:Bytes) (hs:s.length < 1000000):APure Tryz.prog 108 [.str s] (.bool (isPathB s)):=by
 intro M
 refine acalls_of tabOK Tryz.func108 rfl (by decide) (by simp[Tryz.f108]) ?_
 rw[←namesB_is]
 have k:=names_ok s hs
 repeat' (first|refine DW_A tabs rfl ?_|refine DW_nil ?_|refine W_A rfl ?_)
 refine DW_pure rfl rfl rfl rfl rfl k ?_
 repeat' (first|refine DW_A tabs rfl ?_|refine DW_nil ?_|refine W_A rfl ?_)
 exact⟨rfl,_,rfl,rfl,rfl⟩
end Go.Proofs.YtbcaejhhgkcgpaaGreatDoor
namespace Go.Proofs.YtbcaejhhgkcgpaaGreatDoor
open Go.Ab
theorem zero_dec (m:Mt):decide (m=zeroMt)=zeroB m:=by
 obtain⟨a,b,c⟩:=m
 unfold zeroB zeroMt
 rw[Bool.eq_iff_iff]
 simp[and_assoc]
set_option maxRecDepth 100000 in
set_option maxHeartbeats 8000000 in
theorem rMay_ok (c:Ch) (hs:shortCh c):APure Tryz.prog 54 [c.av] (.bool (mayB c)):=by
 intro M
 refine acalls_of tabOK Tryz.func54 rfl (by decide) (by simp[Tryz.f54]) ?_
 have k1:=refIs_ok c.path (by have:=hs.1;omega)
 have k2:=rmIs_ok c.meta_ hs.2
 have k3:=(rmSame_ok c.meta_ zeroMt hs.2 (by decide)).sub (args:=[c.meta_.av,.agg [.int .i64 0,.int .i64 0,.sl 0 [] .full]]) ⟨Sub.refl,Sub.aggL ⟨Sub.refl,Sub.refl,Sub.nil,trivial⟩,trivial⟩
 rw[zero_dec] at k3
 unfold mayB
 by_cases h1:c.path=[]
 ·have d1:(c.path==([]:Bytes))=true:=by simp[h1]
  rw[d1]
  repeat' (first|refine DW_VB tabs rfl d1 ?_|refine DW_A tabs rfl ?_|refine DW_nil ?_|refine W_A rfl ?_|refine DW_C rfl k1 ?_|refine DW_C rfl k2 ?_|refine DW_C rfl k3 ?_)
  exact⟨rfl,_,rfl,rfl,rfl⟩
 ·have d1:(c.path==([]:Bytes))=false:=by simp[h1]
  rw[d1]
  cases h2:isPathB c.path
  ·rw[h2] at k1
   repeat' (first|refine DW_VB tabs rfl d1 ?_|refine DW_A tabs rfl ?_|refine DW_nil ?_|refine W_A rfl ?_|refine DW_C rfl k1 ?_|refine DW_C rfl k2 ?_|refine DW_C rfl k3 ?_)
   exact⟨rfl,_,rfl,rfl,rfl⟩
  ·rw[h2] at k1
   cases h3:isM c.meta_
   ·rw[h3] at k2
    repeat' (first|refine DW_VB tabs rfl d1 ?_|refine DW_A tabs rfl ?_|refine DW_nil ?_|refine W_A rfl ?_|refine DW_C rfl k1 ?_|refine DW_C rfl k2 ?_|refine DW_C rfl k3 ?_)
    exact⟨rfl,_,rfl,rfl,rfl⟩
   ·rw[h3] at k2
    cases h4:c.gone
    ·have d4:(!c.gone)=true:=by simp[h4]
     repeat' (first|refine DW_VB tabs rfl (by first|exact d1|exact d4|exact h4) ?_|refine DW_A tabs rfl ?_|refine DW_nil ?_|refine W_A rfl ?_|refine DW_C rfl k1 ?_|refine DW_C rfl k2 ?_|refine DW_C rfl k3 ?_)
     exact⟨rfl,_,rfl,rfl,rfl⟩
    ·have d4:(!c.gone)=false:=by simp[h4]
     repeat' (first|refine DW_VB tabs rfl (by first|exact d1|exact d4|exact h4) ?_|refine DW_A tabs rfl ?_|refine DW_nil ?_|refine W_A rfl ?_|refine DW_C rfl k1 ?_|refine DW_C rfl k2 ?_|refine DW_C rfl k3 ?_)
     exact⟨rfl,_,rfl,rfl,rfl⟩
set_option maxRecDepth 100000 in
set_option maxHeartbeats 8000000 in
theorem rBatch_ok (l:List Ch) (tg:Tag) (hl:l.length < 1000000) (hs:∀c,c∈l→shortCh c):APure Tryz.prog 23 [chA l tg] (.bool (batchB l)):=by
 intro M
 refine acalls_of tabOK Tryz.func23 rfl (by decide) (by simp[Tryz.f23]) ?_
 have la:=len_map Ch.av l
 unfold batchB chA
 by_cases h1:1≤l.length
 ·by_cases h2:l.length≤20
  ·have d1:decide ((l.length:Int) < 1)=false:=by simp;omega
   have d2:decide ((20:Int) < (l.length:Int))=false:=by simp;omega
   rw[decide_eq_true h1,decide_eq_true h2]
   repeat' (first|refine DW_VB tabs rfl (by first|exact d1|exact d2) ?_|refine DW_VI tabs rfl la ?_|refine DW_A tabs rfl ?_|refine DW_nil ?_|refine W_A rfl ?_|refine W_draw mixed [0,1,2,3,4,5,6,7,8,9,10,11,12,16,17,13,14,15,18,19,20,21,22,23] [.P,.P,.R,.R,.P,.P,.P,.P,.P,.P,.P,.P,.P,.R,.R,.R,.P,.P,.R,.R,.R,.P,.P,.P] rfl rfl (by kernel_rfl) ?_)
   refine W_count l.length (fun i f N=>N=M∧((∀(j:Nat) a,j < i→l[j]? =some a→mayB a=true)∧∀(j:Nat) a b,j+1 < i→l[j]? =some a→l[j+1]? =some b→bl a.path b.path=true)∧f=⟨[(0,.sl 5 (l.map Ch.av) tg),(3,.int .i64 (i:Int))],[]⟩) (Nat.zero_le _) ⟨rfl,⟨fun j a hj=>absurd hj (Nat.not_lt_zero _),fun j a b hj=>absurd hj (Nat.not_lt_zero _)⟩,rfl⟩ (Joint.le ?_ (Mem.le_refl _)) ?_
   ·skip
    repeat (refine AF.le_cons rfl ?_)
    exact AF.le_nil rfl
   rintro i f N hi ⟨rfl,⟨hm,hr⟩,rfl⟩
   by_cases g1:i < l.length
   ·have d3:decide ((i:Int) < (l.length:Int))=true:=by simp;omega
    have hy:l[i]? =some l[i]:=List.getElem?_eq_getElem g1
    have fi:=wrap_succ (i:=i) (by omega)
    have hmem:=List.getElem_mem g1
    generalize l[i]=y at hy hmem
    have km:=rMay_ok y (hs y hmem)
    cases g2:mayB y
    ·rw[g2] at km
     have e:l.all mayB=false:=by
      rw[List.all_eq_false]
      exact⟨y,hmem,by simp[g2]⟩
     rw[e]
     repeat' (first|refine DW_VB tabs rfl d3 ?_|refine DW_VI tabs rfl (by first|exact fi|exact la) ?_|refine DW_A tabs rfl ?_|refine DW_nil ?_|refine W_A rfl ?_|refine DW_C rfl km ?_|refine DW_ix tabOK rfl (ixN hy) ?_|refine W_draw mixed [0,1,2,3,4,5,6,7,8,9,10,11,12,16,17,13,14,15,18,19,20,21,22,23] [.P,.P,.R,.R,.P,.P,.P,.P,.P,.P,.P,.P,.P,.R,.R,.R,.P,.P,.R,.R,.R,.P,.P,.P] rfl rfl (by kernel_rfl) ?_)
     exact⟨rfl,_,rfl,rfl,rfl⟩
    ·rw[g2] at km
     have hm':∀(j:Nat) a,j < i+1→l[j]? =some a→mayB a=true:=by
      intro j a hj ha
      by_cases hji:j=i
      ·subst hji
       rw[hy] at ha
       cases ha
       exact g2
      ·exact hm j a (by omega) ha
     by_cases g0:i=0
     ·subst g0
      repeat' (first|refine DW_VB tabs rfl d3 ?_|refine DW_VI tabs rfl (by first|exact fi|exact la) ?_|refine DW_A tabs rfl ?_|refine DW_nil ?_|refine W_A rfl ?_|refine DW_C rfl km ?_|refine DW_ix tabOK rfl (ixN hy) ?_|refine W_draw mixed [0,1,2,3,4,5,6,7,8,9,10,11,12,16,17,13,14,15,18,19,20,21,22,23] [.P,.P,.R,.R,.P,.P,.P,.P,.P,.P,.P,.P,.P,.R,.R,.R,.P,.P,.R,.R,.R,.P,.P,.P] rfl rfl (by kernel_rfl) ?_)
      refine⟨g1,_,_,⟨rfl,⟨hm',fun j a b hj=>absurd hj (by omega)⟩,rfl⟩,Joint.le ?_ (Mem.le_refl _)⟩
      skip
      repeat (refine AF.le_cons rfl ?_)
      exact AF.le_nil rfl
     ·obtain⟨k,rfl⟩:∃k,i=k+1:=⟨i - 1,by omega⟩
      have d0:decide ((0:Int) < ((k+1:Nat):Int))=true:=decide_eq_true (by omega)
      have w1:IntKind.wrap .i64 (((k+1:Nat):Int) - 1)=(k:Int):=(Go.Ab.wrap_small (by omega) (by omega)).trans (by omega)
      have hx:l[k]? =some l[k]:=List.getElem?_eq_getElem (by omega)
      generalize l[k]=x at hx
      cases g3:bl x.path y.path
      ·have d4:(!bl x.path y.path)=true:=by simp[g3]
       have e:decide (RiseC l)=false:=decide_eq_false fun h=>by rw[riseC_at h hx hy] at g3;cases g3
       rw[e]
       repeat' (first|refine DW_VB tabs rfl (by first|exact d3|exact d0|exact d4|exact g3) ?_|refine DW_VI tabs rfl (by first|exact fi|exact la|exact w1) ?_|refine DW_A tabs rfl ?_|refine DW_nil ?_|refine W_A rfl ?_|refine DW_C rfl km ?_|refine DW_ix tabOK rfl (ixN hx) ?_|refine DW_ix tabOK rfl (ixN hy) ?_|refine W_draw mixed [0,1,2,3,4,5,6,7,8,9,10,11,12,16,17,13,14,15,18,19,20,21,22,23] [.P,.P,.R,.R,.P,.P,.P,.P,.P,.P,.P,.P,.P,.R,.R,.R,.P,.P,.R,.R,.R,.P,.P,.P] rfl rfl (by kernel_rfl) ?_)
       exact⟨rfl,_,rfl,by simp;rfl,rfl⟩
      ·have d4:(!bl x.path y.path)=false:=by simp[g3]
       repeat' (first|refine DW_VB tabs rfl (by first|exact d3|exact d0|exact d4|exact g3) ?_|refine DW_VI tabs rfl (by first|exact fi|exact la|exact w1) ?_|refine DW_A tabs rfl ?_|refine DW_nil ?_|refine W_A rfl ?_|refine DW_C rfl km ?_|refine DW_ix tabOK rfl (ixN hx) ?_|refine DW_ix tabOK rfl (ixN hy) ?_|refine W_draw mixed [0,1,2,3,4,5,6,7,8,9,10,11,12,16,17,13,14,15,18,19,20,21,22,23] [.P,.P,.R,.R,.P,.P,.P,.P,.P,.P,.P,.P,.P,.R,.R,.R,.P,.P,.R,.R,.R,.P,.P,.P] rfl rfl (by kernel_rfl) ?_)
       refine⟨g1,_,_,⟨rfl,⟨hm',?_⟩,rfl⟩,Joint.le ?_ (Mem.le_refl _)⟩
       ·intro j a b hj ha hb
        by_cases hji:j=k
        ·subst hji
         rw[hx] at ha;rw[hy] at hb
         cases ha;cases hb
         exact g3
        ·exact hr j a b (by omega) ha hb
       ·skip
        repeat (refine AF.le_cons rfl ?_)
        exact AF.le_nil rfl
   ·have d3:decide ((i:Int) < (l.length:Int))=false:=by simp;omega
    obtain rfl:i=l.length:=by omega
    have e1:l.all mayB=true:=List.all_eq_true.2 fun x hx=>by
     obtain⟨j,hj⟩:=List.mem_iff_getElem?.1 hx
     exact hm j x (List.getElem?_eq_some_iff.1 hj).1 hj
    have e2:decide (RiseC l)=true:=decide_eq_true (riseC_adj l fun j a b ha hb=>hr j a b (List.getElem?_eq_some_iff.1 hb).1 ha hb)
    rw[e1,e2]
    repeat' (first|refine DW_VB tabs rfl d3 ?_|refine DW_VI tabs rfl la ?_|refine DW_A tabs rfl ?_|refine DW_nil ?_|refine W_A rfl ?_|refine W_draw mixed [0,1,2,3,4,5,6,7,8,9,10,11,12,16,17,13,14,15,18,19,20,21,22,23] [.P,.P,.R,.R,.P,.P,.P,.P,.P,.P,.P,.P,.P,.R,.R,.R,.P,.P,.R,.R,.R,.P,.P,.P] rfl rfl (by kernel_rfl) ?_)
    exact⟨rfl,_,rfl,rfl,rfl⟩
  ·have d1:decide ((l.length:Int) < 1)=false:=by simp;omega
   have d2:decide ((20:Int) < (l.length:Int))=true:=by simp;omega
   rw[decide_eq_false h2]
   repeat' (first|refine DW_VB tabs rfl (by first|exact d1|exact d2) ?_|refine DW_VI tabs rfl la ?_|refine DW_A tabs rfl ?_|refine DW_nil ?_|refine W_A rfl ?_|refine W_draw mixed [0,1,2,3,4,5,6,7,8,9,10,11,12,16,17,13,14,15,18,19,20,21,22,23] [.P,.P,.R,.R,.P,.P,.P,.P,.P,.P,.P,.P,.P,.R,.R,.R,.P,.P,.R,.R,.R,.P,.P,.P] rfl rfl (by kernel_rfl) ?_)
   exact⟨rfl,_,rfl,by simp;rfl,rfl⟩
 ·have d1:decide ((l.length:Int) < 1)=true:=by simp;omega
  rw[decide_eq_false h1]
  repeat' (first|refine DW_VB tabs rfl d1 ?_|refine DW_VI tabs rfl la ?_|refine DW_A tabs rfl ?_|refine DW_nil ?_|refine W_A rfl ?_|refine W_draw mixed [0,1,2,3,4,5,6,7,8,9,10,11,12,16,17,13,14,15,18,19,20,21,22,23] [.P,.P,.R,.R,.P,.P,.P,.P,.P,.P,.P,.P,.P,.R,.R,.R,.P,.P,.R,.R,.R,.P,.P,.P] rfl rfl (by kernel_rfl) ?_)
  exact⟨rfl,_,rfl,rfl,rfl⟩
end Go.Proofs.YtbcaejhhgkcgpaaGreatDoor
namespace Go.Ab
open Go.RowKit
theorem Joint.freezeS {n0:Nat} {t:List (Nat×AV)} {ds:List ADef} {M:Mem} (i:Nat) {id n cap sz:Nat} {l xs:List AV} (h:AF.get ⟨t,ds⟩ i=.osl id 0 n cap sz) (hM:M.get id=some (.cells l)) (hx:l.take (n*sz)=flat xs) (hn:xs.length=n) (hnl:n*sz≤l.length) (hnc:n≤cap) (hs:∀x,x∈xs→x.cells.length=sz):
  Joint n0 ⟨t,ds⟩ M ⟨(i,.sl sz xs .none)::t,ds⟩ (M.drop id):=by
 intro μ0 μ F w0 w m a hnn he hg hr
 obtain⟨b,c,ty,o1,o2,o3,o4,o5⟩:=hg.obj id l hM
 have hid:id < M.next:=(hg.dom id).1 (by rw[o1];simp)
 obtain⟨μ2,k1,k2,k3,k4⟩:=gam_kill hg hid
 have hv:=hr.tmps i
 rw[h] at hv
 obtain⟨b',hb',hv'⟩:=gam_osl hg hM hv
 rw[o1] at hb'
 cases hb'
 refine⟨μ2,he.trans k3,k4 _ rfl (fun j=>Mem.get_drop M id j),hr.size,?_,hr.defs.evo k3,fun p hp=>(hr.kept p hp).evo k3⟩
 intro j
 by_cases e:j=i
 ·subst e
  have:AF.get ⟨(j,.sl sz xs .none)::t,ds⟩ j=.sl sz xs .none:=by simp[AF.get,lookup]
  rw[this,hv',←hn]
  have key:∀(p:Nat) (y:AV),(flat xs)[p]? =some y→l[p]? =some y∧p < l.length:=by
   intro p y hp
   have hlt:=(List.getElem?_eq_some_iff.1 hp).1
   rw[flat_length hs,hn] at hlt
   rw[←hx,List.getElem?_take,if_pos hlt] at hp
   exact⟨hp,by omega⟩
  have hcell:∀p,p < l.length→c[p]? =some (c.getD p undef):=by
   intro p hp
   have:p < c.size:=by omega
   simp[Array.getD,this]
  refine rep_sl (b:=b) (o:=0) (vals:=fun p=>c.getD p undef) hs (by omega) (fun _=>rfl) ?_ trivial
  intro p y hp
  obtain⟨h2,h3⟩:=key p y hp
  refine⟨o4 p _ (hcell p h3),?_,⟨hg.frm b _ ⟨id,.inl o1⟩,?_⟩,(o5 p _ _ h2 (hcell p h3)).evo k3⟩
  ·rw[Nat.zero_add,cell_mk o2]
   exact hcell p h3
  ·intro ho
   obtain⟨i',hi',h4|⟨e',g',h4,_⟩⟩:=k2 b _ ho
   ·exact hi' (hg.inj i' id b (.inl h4) (.inl o1))
   ·exact hi' (hg.inj i' id b (.inr ⟨e',g',h4⟩) (.inl o1))
 ·have:AF.get ⟨(i,.sl sz xs .none)::t,ds⟩ j=AF.get ⟨t,ds⟩ j:=by simp[AF.get,lookup,e]
  rw[this]
  exact (hr.tmps j).evo k3
end Go.Ab
namespace Go.Ab
open Go.RowKit
theorem gam_turnR {μ:Mu} {F:Frm} {M:Mem} {w:World} (h:Gam μ F M w) {id b:Nat} {o:Obj} {vs:Array Value} {t:List (Nat×AV)} (hM:M.get id=some (.raw none o vs t)) (hid:μ id=some (.at b)) (o':Obj) (vs':Array Value) (t':List (Nat×AV))
  (hno:∀c ty fr,o≠.cells c ty fr) (hr:∀i,Rep μ F w ((lookup t' i).getD .top) (vs'.getD i undef)):
  w.heap[b]? =some o∧Evo w μ (w.putObj b o') μ∧Gam μ F (M.set id (.raw none o' vs' t')) (w.putObj b o'):=by
 obtain⟨k2,hev,hG⟩:=gam_turn h hM hid o' hno
 refine⟨k2,hev,hG.dom,?_,?_,hG.inj,hG.frm,hG.fit,?_⟩
 ·intro i l hl
  rw[Mem.get_set] at hl
  split at hl
  ·cases hl
  ·rename_i e
   exact hG.obj i l (by rw[Mem.get_set,if_neg e];exact hl)
 ·intro i g hl
  rw[Mem.get_set] at hl
  split at hl
  ·cases hl
  ·rename_i e
   exact hG.spare i g (by rw[Mem.get_set,if_neg e];exact hl)
 ·intro i gg o2 vs2 t2 hl
  rw[Mem.get_set] at hl
  split at hl
  ·rename_i e
   cases hl
   subst e
   have hlt:b < w.heap.size:=(Array.getElem?_eq_some_iff.1 k2).1
   exact⟨b,hid,World.putObj_heap_same hlt,fun j=>(hr j).evo hev⟩
  ·rename_i e
   exact hG.raw i gg o2 vs2 t2 (by rw[Mem.get_set,if_neg e];exact hl)
def entsF (n:Nat):List (List UInt8×Value)→List MapEntry
 |[]=>[]
 |(k,v)::r=>{key:=.string ⟨k.toArray⟩,val:=v,born:=n}::entsF (n+1) r
def enumT (n:Nat):List AV→List (Nat×AV)
 |[]=>[]
 |x::r=>(n,x)::enumT (n+1) r
def upd {α:Type}:List (List UInt8×α)→List UInt8→α→List (List UInt8×α)
 |[],k,x=>[(k,x)]
 |(k',y)::r,k,x=>if k'=k then (k',x)::r else (k',y)::upd r k x
def mapA (ps:List (List UInt8×Value)) (l:List (List UInt8×AV)):AObj:=.raw none (.map (entsF 0 ps).toArray ps.length) (ps.map (·.2)).toArray (enumT 0 (l.map (·.2)))
def IsMap (M:Mem) (id:Nat) (l:List (List UInt8×AV)):Prop:=∃ps,ps.map (·.1)=l.map (·.1)∧M.get id=some (mapA ps l)
theorem lookup_enum:∀(xs:List AV) (n i:Nat),lookup (enumT n xs) (n+i)=xs[i]?
 |[],n,i=>rfl
 |x::r,n,0=>by simp[enumT,lookup]
 |x::r,n,i+1=>by
  have e:n+(i+1)=(n+1)+i:=by omega
  rw[enumT,lookup,if_neg (by omega),e,lookup_enum r (n+1) i]
  rfl
theorem lookup_enum0 (xs:List AV) (i:Nat):lookup (enumT 0 xs) i=xs[i]? :=by
 have:=lookup_enum xs 0 i
 rwa [Nat.zero_add] at this
theorem entsF_get:∀(ps:List (List UInt8×Value)) (n i:Nat),(entsF n ps)[i]? =(ps[i]?).map fun p=>{key:=.string ⟨p.1.toArray⟩,val:=p.2,born:=n+i}
 |[],n,i=>rfl
 |(k,v)::r,n,0=>rfl
 |(k,v)::r,n,i+1=>by
  have:=entsF_get r (n+1) i
  simp only[entsF,List.getElem?_cons_succ]
  rw[this]
  congr 1
  funext p
  rw[Nat.add_assoc,Nat.add_comm 1 i]
theorem entsF_mem {ps:List (List UInt8×Value)} {n:Nat} {e:MapEntry} (h:e∈entsF n ps):∃i p,ps[i]? =some p∧e={key:=.string ⟨p.1.toArray⟩,val:=p.2,born:=n+i}:=by
 obtain⟨i,hi⟩:=List.mem_iff_getElem?.1 h
 rw[entsF_get] at hi
 obtain⟨p,hp,rfl⟩:=Option.map_eq_some_iff.1 hi
 exact⟨i,p,hp,rfl⟩
theorem entsF_born:∀(ps:List (List UInt8×Value)) (n:Nat),(entsF n ps).map (·.born)=List.range' n ps.length
 |[],n=>rfl
 |(k,v)::r,n=>by
  simp only[entsF,List.map_cons,List.length_cons,List.range'_succ]
  rw[entsF_born r (n+1)]
theorem entsF_snoc:∀(ps:List (List UInt8×Value)) (n:Nat) (k:List UInt8) (v:Value),entsF n (ps++[(k,v)])=entsF n ps++[{key:=.string ⟨k.toArray⟩,val:=v,born:=n+ps.length}]
 |[],n,k,v=>rfl
 |(k',v')::r,n,k,v=>by
  simp only[List.cons_append,entsF,List.length_cons]
  rw[entsF_snoc r (n+1) k v]
  simp only[Nat.add_assoc,Nat.add_comm 1]
def at? {α:Type}:List (List UInt8×α)→List UInt8→Option (Nat×α)
 |[],_=>none
 |(k',y)::r,k=>if k'=k then some (0,y) else (at? r k).map fun p=>(p.1+1,p.2)
theorem bytes_eq (a b:List UInt8):((⟨a.toArray⟩:ByteArray)==⟨b.toArray⟩)=decide (b=a):=by
 by_cases h:b=a
 ·subst h
  have:=(MapKept.bytes_beq (⟨b.toArray⟩:ByteArray) ⟨b.toArray⟩).2 rfl
  rw[this]
  simp
 ·have:¬((⟨a.toArray⟩:ByteArray)==⟨b.toArray⟩)=true:=by
   intro e
   have e2:=(MapKept.bytes_beq _ _).1 e
   injection e2 with e3
   exact h (by simpa using e3.symm)
  rw[Bool.not_eq_true] at this
  rw[this]
  simp[h]
theorem findNow_ents (k:List UInt8):∀(ps:List (List UInt8×Value)) (n i:Nat),Instr.findNow .string (.string ⟨k.toArray⟩) (entsF n ps) i=some ((at? ps k).map fun p=>(i+p.1,p.2))
 |[],n,i=>rfl
 |(k',v)::r,n,i=>by
  simp only[entsF,Instr.findNow,Instr.sameNow,bytes_eq]
  by_cases h:k'=k
  ·simp[h,at?]
  ·simp only[h,decide_false,at?,if_false]
   rw[findNow_ents k r (n+1) (i+1)]
   cases at? r k with
   |none=>rfl
   |some p=>simp[Nat.add_assoc,Nat.add_comm 1]
theorem upd_none {α:Type}:∀(l:List (List UInt8×α)) (k:List UInt8) (x:α),at? l k=none→upd l k x=l++[(k,x)]
 |[],k,x,_=>rfl
 |(k',y)::r,k,x,h=>by
  unfold at? at h
  split at h
  ·cases h
  ·rename_i e
   rw[upd,if_neg e,upd_none r k x (by simpa using h)]
   rfl
theorem upd_some {α:Type}:∀(l:List (List UInt8×α)) (k:List UInt8) (x:α) (i:Nat) (y:α),at? l k=some (i,y)→l[i]? =some (k,y)∧upd l k x=l.set i (k,x)
 |[],k,x,i,y,h=>by cases h
 |(k',y')::r,k,x,i,y,h=>by
  unfold at? at h
  split at h
  ·rename_i e
   cases h
   subst e
   exact⟨rfl,by simp[upd]⟩
  ·rename_i e
   obtain⟨⟨j,z⟩,h1,h2⟩:=Option.map_eq_some_iff.1 h
   cases h2
   obtain⟨h3,h4⟩:=upd_some r k x j z h1
   exact⟨by simpa using h3,by rw[upd,if_neg e,h4];rfl⟩
theorem upd_keys {α β:Type}:∀(l:List (List UInt8×α)) (m:List (List UInt8×β)) (k:List UInt8) (x:α) (y:β),l.map (·.1)=m.map (·.1)→(upd l k x).map (·.1)=(upd m k y).map (·.1)
 |[],[],k,x,y,_=>rfl
 |[],_::_,k,x,y,h=>by simp at h
 |_::_,[],k,x,y,h=>by simp at h
 |(a,b)::l,(c,d)::m,k,x,y,h=>by
  simp only[List.map_cons,List.cons.injEq] at h
  obtain⟨h1,h2⟩:=h
  subst h1
  unfold upd
  split
  ·simp[h2]
  ·simp[upd_keys l m k x y h2]
theorem at_keys {α β:Type}:∀(l:List (List UInt8×α)) (m:List (List UInt8×β)) (k:List UInt8),l.map (·.1)=m.map (·.1)→(at? l k).map (·.1)=(at? m k).map (·.1)
 |[],[],k,_=>rfl
 |[],_::_,k,h=>by simp at h
 |_::_,[],k,h=>by simp at h
 |(a,b)::l,(c,d)::m,k,h=>by
  simp only[List.map_cons,List.cons.injEq] at h
  obtain⟨h1,h2⟩:=h
  subst h1
  unfold at?
  split
  ·rfl
  ·have:=at_keys l m k h2
   simp only[Option.map_map]
   have e:∀{γ:Type} (o:Option (Nat×γ)),Option.map ((fun p=>p.1)∘fun p:Nat×γ=>(p.1+1,p.2)) o=(o.map (·.1)).map (·+1):=by
    intro γ o;cases o<;>rfl
   rw[e,e,this]
theorem entsF_set:∀(ps:List (List UInt8×Value)) (n i:Nat) (k:List UInt8) (y v:Value) (f:MapEntry→MapEntry),ps[i]? =some (k,y)→(∀e,e.key=.string ⟨k.toArray⟩→f e={e with val:=v})→(entsF n ps).modify i f=entsF n (ps.set i (k,v))
 |[],n,i,k,y,v,f,h,_=>by simp at h
 |(k',y')::r,n,0,k,y,v,f,h,hf=>by
  simp only[List.getElem?_cons_zero,Option.some.injEq,Prod.mk.injEq] at h
  obtain⟨rfl,rfl⟩:=h
  simp only[entsF,List.modify_zero_cons,List.set_cons_zero]
  rw[hf _ rfl]
 |(k',y')::r,n,i+1,k,y,v,f,h,hf=>by
  simp only[entsF,List.modify_succ_cons,List.set_cons_succ]
  rw[entsF_set r (n+1) i k y v f (by simpa using h) hf]
theorem run_mapUpdate {P:Program} {w:World} {mt kt et:TypeId} (ht:P.underlying mt=some (.map kt et)) (hk:P.underlying kt=some .string) {b:Nat} {ps:List (List UInt8×Value)} (hb:w.heap[b]? =some (.map (entsF 0 ps).toArray ps.length)) (k:List UInt8) (v:Value):
  (Instr.mapUpdate mt (.map (some b)) (.string ⟨k.toArray⟩) v).run P w=.ok () (w.putObj b (.map (entsF 0 (upd ps k v)).toArray (upd ps k v).length)):=by
 have hf:=MapKept.run_findKey (P:=P) (w:=w) hk (findNow_ents k ps 0 0)
 have hck:(Instr.checkKey false 10000 kt (.string ⟨k.toArray⟩)).run P w=.ok () w:=MapKept.run_checkKey (n:=9999) hk (by trivial) false
 cases ha:at? ps k with
 |none=>
  rw[ha] at hf
  have e:=upd_none ps k v ha
  rw[e,entsF_snoc]
  have hset:=fun o=>MapKept.run_setObj_map (P:=P) (w:=w) o hb
  simp[Instr.mapUpdate,run_underlying ht,MapKept.run_getObj_map hb,hck,hf,Result.andThen,hset,World.putObj]
 |some p=>
  obtain⟨i,y⟩:=p
  rw[ha] at hf
  obtain⟨h1,h2⟩:=upd_some ps k v i y ha
  have hg:(entsF 0 ps).toArray[i]? =some {key:=.string ⟨k.toArray⟩,val:=y,born:=0+i}:=by
   rw[List.getElem?_toArray,entsF_get,h1]
   rfl
  have hsame:(Instr.keyThatStays (.string ⟨k.toArray⟩) (.string ⟨k.toArray⟩)).run P w=.ok (.string ⟨k.toArray⟩) w:=by
   have:Instr.sameBits 10000 (.string ⟨k.toArray⟩) (.string ⟨k.toArray⟩)=true:=by
    simp[Instr.sameBits,bytes_eq]
   simp[Instr.keyThatStays,this,Sem.run]
  have hset:=fun o=>MapKept.run_setObj_map (P:=P) (w:=w) o hb
  have e:((entsF 0 ps).modify i fun e=>{key:=.string ⟨k.toArray⟩,val:=v,born:=e.born})=entsF 0 (ps.set i (k,v)):=entsF_set ps 0 i k y v _ h1 (fun e he=>by rw[←he])
  have hg2:(entsF 0 ps)[i]? =some {key:=.string ⟨k.toArray⟩,val:=y,born:=0+i}:=by simpa using hg
  have hf':(Instr.findKey kt (.string ⟨k.toArray⟩) (entsF 0 ps)).run P w=.ok (some (i,y)) w:=by simpa using hf
  rw[h2]
  simp[Instr.mapUpdate,run_underlying ht,MapKept.run_getObj_map hb,hck,hf',Result.andThen,hg2,hsame,hset,World.putObj,e]
theorem rep_map_inv {μ:Mu} {F:Frm} {w:World} {id b:Nat} {v:Value} (h:Rep μ F w (.map id) v) (hb:μ id=some (.at b)):v=.map (some b):=by
 cases h with
 |map _ _ _ _ hv=>exact hv b hb
theorem rep_ptr_inv {μ:Mu} {F:Frm} {w:World} {id off b:Nat} {v:Value} (h:Rep μ F w (.ptr id off) v) (hb:μ id=some (.at b)):v=.pointer (some ⟨b,off,none⟩):=by
 cases h with
 |ptr _ _ _ _ _ hv=>exact hv b hb
theorem opE_makeMap {P:Program} {mt:TypeId} {ty:TypeId} {ρ:Operand→AV} {M:Mem}:OpE P (.makeMap mt none) ty ρ M (.map M.next) (M.push (mapA [] [])):=by
 intro μ F w ρc o hg ho ht hr
 have hb:=below_push w (.map #[] 0)
 have hnew:({w with heap:=w.heap.push (.map #[] 0)}:World).heap[w.heap.size]? =some (.map #[] 0):=by simp
 obtain⟨he,hG⟩:=gam_pushraw hg hb (vs:=#[]) (t:=[]) (Nat.le_refl _) hnew (fun i=>.top _)
 refine⟨_,_,.map (some w.heap.size),_,?_,.inl rfl,he,hG,?_⟩
 ·simp[execOp,ho,Instr.makeMap,Result.andThen]
 ·exact .map _ _ rfl (by simp[Mu.put]) (fun b hb=>by simp[Mu.put] at hb;subst hb;rfl)
theorem opE_makeMap1 {P:Program} {mt kt et:TypeId} (hmt:P.underlying mt=some (.map kt et)) {ty:TypeId} {y:Operand} {ik:IntKind} {n:Int} {ρ:Operand→AV} (hy:ρ y=.int ik n) {M:Mem}:OpE P (.makeMap mt (some y)) ty ρ M (.map M.next) (M.push (mapA [] [])):=by
 intro μ F w ρc o hg ho ht hr
 have hb:=below_push w (.map #[] 0)
 have hnew:({w with heap:=w.heap.push (.map #[] 0)}:World).heap[w.heap.size]? =some (.map #[] 0):=by simp
 obtain⟨he,hG⟩:=gam_pushraw hg hb (vs:=#[]) (t:=[]) (Nat.le_refl _) hnew (fun i=>.top _)
 have h1:=hr y (by simp[Op.operands])
 rw[hy] at h1
 have h2:ρc y=.int ik n:=by
  generalize ρc y=v at h1
  cases h1
  rfl
 refine⟨_,_,.map (some w.heap.size),_,?_,.inl rfl,he,hG,?_⟩
 ·simp[execOp,ho,Instr.makeMap,Result.andThen,h2,run_underlying hmt,asInt,asIntOf]
 ·exact .map _ _ rfl (by simp[Mu.put]) (fun b hb=>by simp[Mu.put] at hb;subst hb;rfl)
theorem opG_mapUpdate {P:Program} {o:Oper} {mt kt et:TypeId} (hmt:P.underlying mt=some (.map kt et)) (hkt:P.underlying kt=some .string) {m k x:Operand} (ho:o.op=.mapUpdate mt m k x) {ρ:Operand→AV} {M:Mem} {id:Nat} {l:List (List UInt8×AV)} {kk:List UInt8}
  (hm:ρ m=.map id) (hk:ρ k=.str kk) (hM:IsMap M id l) {Kp:AV→Mem→Prop}:
  OpG P o ρ M (fun u M'=>u=.top∧∃ps',ps'.map (·.1)=(upd l kk (ρ x)).map (·.1)∧M'=M.set id (mapA ps' (upd l kk (ρ x)))) Kp:=by
 obtain⟨ps,hps,hM⟩:=hM
 intro μ F w a hg hr next Q' g1 g2
 have r1:=hr m (by simp[ho,Op.operands])
 have r2:=hr k (by simp[ho,Op.operands])
 have r3:=hr x (by simp[ho,Op.operands])
 rw[hm] at r1
 rw[hk] at r2
 obtain⟨b,k1,k2,k3⟩:=hg.raw id _ _ _ _ hM
 have k1:μ id=some (.at b):=k1
 have e1:=rep_map_inv r1 k1
 have e2:a.eval k=.string ⟨kk.toArray⟩:=by
  generalize a.eval k=v at r2
  cases r2
  rfl
 have hkeys:=upd_keys ps l kk (a.eval x) (ρ x) hps
 have hlen:ps.length=l.length:=by
  have:=congrArg List.length hps
  simpa using this
 obtain⟨_,hev,hG⟩:=gam_turnR hg hM k1 (.map (entsF 0 (upd ps kk (a.eval x))).toArray (upd ps kk (a.eval x)).length) ((upd ps kk (a.eval x)).map (·.2)).toArray (enumT 0 ((upd l kk (ρ x)).map (·.2))) (by intro c ty fr h;cases h) (by
  intro i
  rw[lookup_enum0]
  have old:=k3 i
  rw[lookup_enum0] at old
  have hat:=at_keys ps l kk hps
  have getD_eq:∀(qs:List (List UInt8×Value)),(qs.map (·.2)).toArray.getD i undef=((qs[i]?).map (·.2)).getD undef:=by
   intro qs
   simp[Array.getD_eq_getD_getElem?]
  rw[getD_eq] at old ⊢
  simp only[List.getElem?_map] at old ⊢
  cases ha:at? ps kk with
  |none=>
   rw[ha] at hat
   have hb2:at? l kk=none:=by
    cases hl:at? l kk with
    |none=>rfl
    |some p=>rw[hl] at hat;cases hat
   rw[upd_none ps kk _ ha,upd_none l kk _ hb2]
   rcases Nat.lt_trichotomy i ps.length with h|h|h
   ·rw[List.getElem?_append_left h,List.getElem?_append_left (by omega)]
    exact old
   ·subst h
    rw[List.getElem?_append_right (Nat.le_refl _),hlen,List.getElem?_append_right (Nat.le_refl _)]
    simpa using r3
   ·rw[List.getElem?_eq_none (by simp;omega),List.getElem?_eq_none (by simp;omega)]
    exact .top _
  |some p=>
   obtain⟨j,y⟩:=p
   rw[ha] at hat
   cases hl:at? l kk with
   |none=>rw[hl] at hat;cases hat
   |some q=>
    obtain⟨j',z⟩:=q
    rw[hl] at hat
    simp only[Option.map_some,Option.some.injEq] at hat
    subst hat
    obtain⟨h1,h2⟩:=upd_some ps kk (a.eval x) j y ha
    obtain⟨h3,h4⟩:=upd_some l kk (ρ x) j z hl
    have hj1:j < ps.length:=(List.getElem?_eq_some_iff.1 h1).1
    have hj2:j < l.length:=(List.getElem?_eq_some_iff.1 h3).1
    rw[h2,h4]
    by_cases hij:j=i
    ·subst hij
     rw[List.getElem?_set_self hj1,List.getElem?_set_self hj2]
     exact r3
    ·rw[List.getElem?_set_ne hij,List.getElem?_set_ne hij]
     exact old)
 have hrun:(execOp a.eval o).run P w=.ok .skip (w.putObj b (.map (entsF 0 (upd ps kk (a.eval x))).toArray (upd ps kk (a.eval x)).length)):=by
  simp[execOp,ho,e1,e2,run_mapUpdate hmt hkt k2 kk (a.eval x),Result.andThen]
 unfold Oper.wp
 rw[hrun]
 exact g1 _ _ _ _ .top hev hG (.top _) ⟨rfl,_,hkeys,rfl⟩
def iterA (b id n:Nat) (seen:Array Nat):AObj:=.raw none (.mapIter (some b) n seen n) #[.map (some b)] [(0,.map id)]
def IsIter (M:Mem) (it id n:Nat) (seen:Array Nat):Prop:=∃b,M.get it=some (iterA b id n seen)
theorem opG_range {P:Program} {o:Oper} {mt kt et:TypeId} (hmt:P.underlying mt=some (.map kt et)) {m:Operand} (ho:o.op=.range mt m) {ρ:Operand→AV} {M:Mem} {id:Nat} {l:List (List UInt8×AV)} (hm:ρ m=.map id) (hM:IsMap M id l) {Kp:AV→Mem→Prop}:
  OpG P o ρ M (fun u M'=>u=.ptr M.next 0∧∃b,M'=M.push (iterA b id l.length #[])) Kp:=by
 obtain⟨ps,hps,hM⟩:=hM
 intro μ F w a hg hr next Q' g1 g2
 have r1:=hr m (by simp[ho,Op.operands])
 rw[hm] at r1
 obtain⟨b,k1,k2,k3⟩:=hg.raw id _ _ _ _ hM
 have k1:μ id=some (.at b):=k1
 have e1:=rep_map_inv r1 k1
 have hlen:ps.length=l.length:=by
  have:=congrArg List.length hps
  simpa using this
 have hb:=below_push w (.mapIter (some b) ps.length #[] ps.length)
 have hnew:({w with heap:=w.heap.push (.mapIter (some b) ps.length #[] ps.length)}:World).heap[w.heap.size]? =some (.mapIter (some b) ps.length #[] ps.length):=by simp
 obtain⟨he,hG⟩:=gam_pushraw hg hb (vs:=#[.map (some b)]) (t:=[(0,.map id)]) (Nat.le_refl _) hnew (fun i=>by
  by_cases hi:i=0
  ·subst hi
   rw[←e1]
   exact r1
  ·have:lookup [((0:Nat),AV.map id)] i=none:=by simp[lookup,hi]
   rw[this]
   exact .top _)
 have hrun:(execOp a.eval o).run P w=.ok (.value (.pointer (some ⟨w.heap.size,0,none⟩))) {w with heap:=w.heap.push (.mapIter (some b) ps.length #[] ps.length)}:=by
  have:=run_range_map w mt kt et b (entsF 0 ps).toArray ps.length hmt k2
  simp[execOp,ho,e1,this,Result.andThen]
 unfold Oper.wp
 rw[hrun]
 refine g1 _ _ _ _ _ he hG ?_ ⟨rfl,b,by rw[hlen];rfl⟩
 exact .ptr _ _ _ rfl (by simp[Mu.put]) (fun b hb=>by simp[Mu.put] at hb;subst hb;rfl)
theorem opG_next {P:Program} {o:Oper} {y:Operand} (ho:o.op=.next y false) {ρ:Operand→AV} {M:Mem} {it id:Nat} {l:List (List UInt8×AV)} {seen:Array Nat} (hy:ρ y=.ptr it 0) (hI:IsIter M it id l.length seen) (hM:IsMap M id l) {Kp:AV→Mem→Prop}:
  OpG P o ρ M (fun u M'=>(u=.tup [.bool false]∧M'=M∧∀i,i < l.length→seen.contains i=true)∨
   ∃b i k x,l[i]? =some (k,x)∧seen.contains i=false∧u=.tup [.bool true,.str k,x]∧M'=M.set it (iterA b id l.length (seen.push i))) Kp:=by
 obtain⟨ps,hps,hM⟩:=hM
 obtain⟨b,hI⟩:=hI
 intro μ F w a hg hr next Q' g1 g2
 have r1:=hr y (by simp[ho,Op.operands])
 rw[hy] at r1
 obtain⟨b1,k1,k2,k3⟩:=hg.raw id _ _ _ _ hM
 have k1:μ id=some (.at b1):=k1
 obtain⟨b2,j1,j2,j3⟩:=hg.raw it _ _ _ _ hI
 have j1:μ it=some (.at b2):=j1
 have e1:=rep_ptr_inv r1 j1
 have hbb:b=b1:=by
  have:=rep_map_inv (j3 0) k1
  injection this with h
  injection h
 subst hbb
 have hlen:ps.length=l.length:=by
  have:=congrArg List.length hps
  simpa using this
 rw[hlen] at k2
 have hold:∀e∈(entsF 0 ps).toArray.toList,e.born < l.length:=by
  intro e he
  obtain⟨i,p,hp,rfl⟩:=entsF_mem (by simpa using he)
  have:=(List.getElem?_eq_some_iff.1 hp).1
  simp
  omega
 have hx:∀(r:Result Value),(Instr.next (.pointer (some ⟨b2,0,none⟩)) false o.type).run P w=r→(execOp a.eval o).run P w=r.andThen fun v w'=>.ok (.value v) w':=by
  intro r h
  simp[execOp,ho,e1,h]
 rcases run_next_at (P:=P) w o.type b2 b l.length l.length seen (entsF 0 ps).toArray l.length j2 k2 hold (Nat.le_refl _) with ⟨h0,hn⟩|⟨e,he,w1,hw1,hn⟩
 ·unfold Oper.wp
  rw[hx _ hn]
  refine g1 μ M w _ (.tup [.bool false]) (Evo.refl w μ) hg (.tup _ _ rfl ?_) (.inl ⟨rfl,rfl,?_⟩)
  ·intro i x v hx hv
   match i,hx with
   |0,hx=>
    cases hx
    simp at hv
    subst hv
    exact .bool false
   |i+1,hx=>simp at hx
  ·intro i hi
   cases hc:seen.contains i with
   |true=>rfl
   |false=>
    have hlt:i < ps.length:=by omega
    have hp:(entsF 0 ps)[i]? =some {key:=.string ⟨(ps[i]'hlt).1.toArray⟩,val:=(ps[i]'hlt).2,born:=0+i}:=by rw[entsF_get,List.getElem?_eq_getElem hlt];rfl
    have hm2:=List.mem_of_getElem? hp
    have:∃e,e∈leftOf (entsF 0 ps).toArray seen:=⟨_,Array.mem_filter.2 ⟨by simpa using hm2,by show (!seen.contains i)=true;rw[hc];rfl⟩⟩
    obtain⟨e,he⟩:=this
    have h1:=Array.size_pos_of_mem he
    omega
 ·obtain⟨hm1,hm2⟩:=mem_left he
  obtain⟨i,p,hp,rfl⟩:=entsF_mem (by simpa using hm1)
  have hi:i < ps.length:=(List.getElem?_eq_some_iff.1 hp).1
  have hli:l[i]? =some (l[i]'(by omega)):=List.getElem?_eq_getElem (by omega)
  have hkey:(l[i]'(by omega)).1=p.1:=by
   have:=congrArg (·[i]?) hps
   simp only[List.getElem?_map,hp,hli,Option.map_some,Option.some.injEq] at this
   exact this.symm
  simp only[Nat.zero_add] at hm2 hn
  have hw:Below w.heap.size w w1∧w1.heap=w.heap:=by
   rcases hw1 with rfl|rfl
   ·exact⟨Below.refl _ _,rfl⟩
   ·exact⟨(Below.refl _ _).drew,rfl⟩
  have hg1:=hg.below hw.1
  obtain⟨_,hev,hG⟩:=gam_turnR hg1 hI j1 (.mapIter (some b) l.length (seen.push i) l.length) #[.map (some b)] [(0,.map id)] (by intro c ty fr h;cases h) (fun i=>(j3 i).later hw.1)
  have hv:=k3 i
  rw[lookup_enum0] at hv
  simp only[List.getElem?_map,hli,Option.map_some,Option.getD_some] at hv
  have hv2:(ps.map (·.2)).toArray.getD i undef=p.2:=by
   simp[Array.getD_eq_getD_getElem?,hp]
  rw[hv2] at hv
  have hev':=(Evo.of_below μ hw.1).trans hev
  unfold Oper.wp
  rw[hx _ hn]
  refine g1 μ _ _ _ (.tup [.bool true,.str (l[i]'(by omega)).1,(l[i]'(by omega)).2]) hev' hG (.tup _ _ rfl ?_) (.inr ⟨b,i,_,_,hli,hm2,rfl,rfl⟩)
  intro j x v hx hv'
  match j,hx with
  |0,hx=>
   cases hx
   simp at hv'
   subst hv'
   exact .bool true
  |1,hx=>
   cases hx
   simp at hv'
   subst hv'
   rw[hkey]
   exact .str _
  |2,hx=>
   cases hx
   simp at hv'
   subst hv'
   exact hv.evo hev'
  |j+3,hx=>simp at hx
section
variable {P:Program} {ops:Array Oper} {cls:Nat→Cls} {Q:AX→AF→Mem→Prop} {ds:List ADef} {ls:List Nat} {i:Nat} {t:List (Nat×AV)} {M:Mem}
def stepMake (ops:Array Oper) (cls:Nat→Cls) (ds:List ADef) (i:Nat) (t:List (Nat×AV)):Option (Nat×TypeId):=
 match ops[i]? with
 |some o=>
  match wantedA ops ⟨t,ds⟩ o,o.dst,isE (cls i),o.op with
  |some true,some d,true,.makeMap mt none=>some (d,mt)
  |some true,some d,true,.makeMap mt (some y)=>(match AF.ev ⟨t,ds⟩ y with
   |.int _ _=>some (d,mt)
   |_=>none)
  |_,_,_,_=>none
 |none=>none
theorem DW_mmake {d:Nat} {mt kt et:TypeId} (hs:stepMake ops cls ds i t=some (d,mt)) (hmt:P.underlying mt=some (.map kt et)) (h:DW P ops cls Q ds ls ((d,.map M.next)::t) (M.push (mapA [] []))):DW P ops cls Q ds (i::ls) t M:=by
 unfold stepMake at hs
 split at hs
 ·rename_i o hi
  split at hs
  ·rename_i d' mt' hw hd hc ho
   cases hs
   exact DW_ofE hi hw hd hc (by rw[ho];exact opE_makeMap) h
  ·rename_i d' mt' y hw hd hc ho
   split at hs
   ·rename_i ik n hy
    cases hs
    exact DW_ofE hi hw hd hc (by rw[ho];exact opE_makeMap1 hmt hy) h
   ·cases hs
  ·cases hs
 ·cases hs
def stepMupd (ops:Array Oper) (cls:Nat→Cls) (ds:List ADef) (i:Nat) (t:List (Nat×AV)):Option (TypeId×Nat×List UInt8×AV):=
 match ops[i]? with
 |some o=>
  match wantedA ops ⟨t,ds⟩ o,o.dst,isE (cls i),o.op with
  |some true,none,true,.mapUpdate mt m k x=>(match AF.ev ⟨t,ds⟩ m,AF.ev ⟨t,ds⟩ k with
   |.map id,.str kk=>some (mt,id,kk,AF.ev ⟨t,ds⟩ x)
   |_,_=>none)
  |_,_,_,_=>none
 |none=>none
theorem DW_mupd {mt kt et:TypeId} {id:Nat} {kk:List UInt8} {x:AV} (hs:stepMupd ops cls ds i t=some (mt,id,kk,x)) (hmt:P.underlying mt=some (.map kt et)) (hkt:P.underlying kt=some .string) {l:List (List UInt8×AV)} (hM:IsMap M id l)
  (h:∀ps',ps'.map (·.1)=(upd l kk x).map (·.1)→DW P ops cls Q ds ls t (M.set id (mapA ps' (upd l kk x)))):DW P ops cls Q ds (i::ls) t M:=by
 unfold stepMupd at hs
 split at hs
 ·rename_i o hi
  split at hs
  ·rename_i mt' m k y hw hd hc ho
   split at hs
   ·rename_i id' kk' hm hk
    cases hs
    refine DW_run hi hw ?_
    refine SC.of_G hc (by intro c hc;rw[ho] at hc;cases hc) ?_
    refine OpG.mono (opG_mapUpdate hmt hkt ho hm hk hM) ?_
    rintro u M' ⟨rfl,ps',h1,rfl⟩
    have:=h ps' h1
    simpa [AF.put,hd] using this
   ·cases hs
  ·cases hs
 ·cases hs
def stepMrng (ops:Array Oper) (cls:Nat→Cls) (ds:List ADef) (i:Nat) (t:List (Nat×AV)):Option (Nat×TypeId×Nat):=
 match ops[i]? with
 |some o=>
  match wantedA ops ⟨t,ds⟩ o,o.dst,isE (cls i),o.op with
  |some true,some d,true,.range mt m=>(match AF.ev ⟨t,ds⟩ m with
   |.map id=>some (d,mt,id)
   |_=>none)
  |_,_,_,_=>none
 |none=>none
theorem DW_mrng {d:Nat} {mt kt et:TypeId} {id:Nat} (hs:stepMrng ops cls ds i t=some (d,mt,id)) (hmt:P.underlying mt=some (.map kt et)) {l:List (List UInt8×AV)} (hM:IsMap M id l)
  (h:∀b,DW P ops cls Q ds ls ((d,.ptr M.next 0)::t) (M.push (iterA b id l.length #[]))):DW P ops cls Q ds (i::ls) t M:=by
 unfold stepMrng at hs
 split at hs
 ·rename_i o hi
  split at hs
  ·rename_i d' mt' m hw hd hc ho
   split at hs
   ·rename_i id' hm
    cases hs
    refine DW_run hi hw ?_
    refine SC.of_G hc (by intro c hc;rw[ho] at hc;cases hc) ?_
    refine OpG.mono (opG_range hmt ho hm hM) ?_
    rintro u M' ⟨rfl,b,rfl⟩
    have:=h b
    simpa [AF.put,hd] using this
   ·cases hs
  ·cases hs
 ·cases hs
def stepMnext (ops:Array Oper) (cls:Nat→Cls) (ds:List ADef) (i:Nat) (t:List (Nat×AV)):Option (Nat×Nat):=
 match ops[i]? with
 |some o=>
  match wantedA ops ⟨t,ds⟩ o,o.dst,isE (cls i),o.op with
  |some true,some d,true,.next y false=>(match AF.ev ⟨t,ds⟩ y with
   |.ptr it 0=>some (d,it)
   |_=>none)
  |_,_,_,_=>none
 |none=>none
theorem DW_mnext {d it id:Nat} (hs:stepMnext ops cls ds i t=some (d,it)) {l:List (List UInt8×AV)} {seen:Array Nat} (hI:IsIter M it id l.length seen) (hM:IsMap M id l)
  (h0:(∀j,j < l.length→seen.contains j=true)→DW P ops cls Q ds ls ((d,.tup [.bool false])::t) M)
  (h1:∀b j k x,l[j]? =some (k,x)→seen.contains j=false→DW P ops cls Q ds ls ((d,.tup [.bool true,.str k,x])::t) (M.set it (iterA b id l.length (seen.push j)))):DW P ops cls Q ds (i::ls) t M:=by
 unfold stepMnext at hs
 split at hs
 ·rename_i o hi
  split at hs
  ·rename_i d' y hw hd hc ho
   split at hs
   ·rename_i it' hy
    cases hs
    refine DW_run hi hw ?_
    refine SC.of_G hc (by intro c hc;rw[ho] at hc;cases hc) ?_
    refine OpG.mono (opG_next ho hy hI hM) ?_
    rintro u M' (⟨rfl,rfl,h⟩|⟨b,j,k,x,h2,h3,rfl,rfl⟩)
    ·have:=h0 h
     simpa [AF.put,hd] using this
    ·have:=h1 b j k x h2 h3
     simpa [AF.put,hd] using this
   ·cases hs
  ·cases hs
 ·cases hs
end
end Go.Ab
namespace Go.Proofs.YtbcaejhhgkcgpaaGreatDoor
open Go.Ab
theorem snoc_ind {α:Type} {p:List α→Prop} (h0:p []) (h1:∀l d,p l→p (l++[d])):∀l,p l:=by
 intro l
 have k:∀m:List α,p m.reverse:=fun m=>by
  induction m with
  |nil=>exact h0
  |cons a m ih=>rw[List.reverse_cons];exact h1 _ _ ih
 have:=k l.reverse
 rwa [List.reverse_reverse] at this
def lastC (l:List Ch) (p:Bytes):Option Ch:=l.foldl (fun o c=>if c.path=p then some c else o) none
theorem lastC_snoc (l:List Ch) (d:Ch) (p:Bytes):lastC (l++[d]) p=if d.path=p then some d else lastC l p:=by simp[lastC]
theorem lastC_path:∀(l:List Ch) {p:Bytes} {c:Ch},lastC l p=some c→c.path=p∧c∈l:=by
 intro l
 induction l using snoc_ind with
 |h0=>intro p c h;cases h
 |h1 l d ih=>
  intro p c h
  rw[lastC_snoc] at h
  split at h
  ·cases h
   exact⟨by assumption,by simp⟩
  ·exact⟨(ih h).1,by simp[(ih h).2]⟩
def insC:List Ch→Ch→List Ch
 |[],c=>[c]
 |d::r,c=>if bl d.path c.path=true then d::insC r c else if d.path=c.path then c::r else c::d::r
theorem insC_at:∀(l:List Ch) (c:Ch) (i:Nat),i≤l.length→(∀(j:Nat) d,j < i→l[j]? =some d→bl d.path c.path=true)→(∀d,l[i]? =some d→bl d.path c.path=false)→
  insC l c=l.take i++c::l.drop (if ∃d,l[i]? =some d∧d.path=c.path then i+1 else i)
 |[],c,i,hi,_,_=>by
  have:i=0:=by simpa using hi
  subst this
  simp[insC]
 |d::r,c,0,_,_,h=>by
  have h1:=h d rfl
  unfold insC
  rw[if_neg (by simp[h1])]
  by_cases e:d.path=c.path
  ·rw[if_pos e,if_pos ⟨d,rfl,e⟩]
   rfl
  ·rw[if_neg e,if_neg (by rintro⟨d',h2,h3⟩;cases h2;exact e h3)]
   rfl
 |d::r,c,i+1,hi,hlt,h=>by
  have h1:=hlt 0 d (Nat.zero_lt_succ _) rfl
  unfold insC
  rw[if_pos h1,insC_at r c i (by simpa using hi) (fun j d hj hd=>hlt (j+1) d (by omega) (by simpa using hd)) (fun d hd=>h d (by simpa using hd))]
  simp only[List.getElem?_cons_succ,List.take_succ_cons,List.cons_append]
  congr 2
  split<;>rfl
theorem mem_insC:∀{l:List Ch} {c x:Ch},RiseC l→(x∈insC l c↔x=c∨(x∈l∧x.path≠c.path))
 |[],c,x,_=>by simp[insC]
 |d::r,c,x,h=>by
  obtain⟨h1,h2⟩:=List.pairwise_cons.1 h
  have ih:=@mem_insC r c x h2
  unfold insC
  split
  ·rename_i e
   have hne:d.path≠c.path:=fun k=>by rw[k,bl_irrefl] at e;cases e
   rw[List.mem_cons,ih,List.mem_cons]
   constructor
   ·rintro (rfl|h|⟨h3,h4⟩)
    ·exact .inr ⟨.inl rfl,hne⟩
    ·exact .inl h
    ·exact .inr ⟨.inr h3,h4⟩
   ·rintro (h|⟨rfl|h3,h4⟩)
    ·exact .inr (.inl h)
    ·exact .inl rfl
    ·exact .inr (.inr ⟨h3,h4⟩)
  ·rename_i e
   split
   ·rename_i k
    rw[List.mem_cons,List.mem_cons]
    constructor
    ·rintro (h3|h3)
     ·exact .inl h3
     ·refine .inr ⟨.inr h3,fun k2=>?_⟩
      have:=h1 x h3
      rw[k2,k,bl_irrefl] at this
      cases this
    ·rintro (h3|⟨rfl|h3,h4⟩)
     ·exact .inl h3
     ·exact absurd k h4
     ·exact .inr h3
   ·rename_i k
    have hb:bl c.path d.path=true:=(bl_total k).resolve_left e
    rw[List.mem_cons,List.mem_cons]
    constructor
    ·rintro (h3|rfl|h3)
     ·exact .inl h3
     ·exact .inr ⟨.inl rfl,k⟩
     ·refine .inr ⟨.inr h3,fun k2=>?_⟩
      have:=bl_trans hb (h1 x h3)
      rw[k2,bl_irrefl] at this
      cases this
    ·rintro (h3|⟨h3,_⟩)
     ·exact .inl h3
     ·exact .inr h3
theorem rise_insC:∀{l:List Ch} {c:Ch},RiseC l→RiseC (insC l c)
 |[],c,_=>by simp[insC,RiseC]
 |d::r,c,h=>by
  obtain⟨h1,h2⟩:=List.pairwise_cons.1 h
  have ih:=@rise_insC r c h2
  unfold insC
  split
  ·rename_i e
   refine List.pairwise_cons.2 ⟨fun x hx=>?_,ih⟩
   rcases (mem_insC h2).1 hx with rfl|⟨h3,_⟩
   ·exact e
   ·exact h1 x h3
  ·rename_i e
   split
   ·rename_i k
    exact List.pairwise_cons.2 ⟨fun x hx=>by rw[←k];exact h1 x hx,h2⟩
   ·rename_i k
    have hb:bl c.path d.path=true:=(bl_total k).resolve_left e
    refine List.pairwise_cons.2 ⟨fun x hx=>?_,h⟩
    rcases List.mem_cons.1 hx with rfl|h3
    ·exact hb
    ·exact bl_trans hb (h1 x h3)
def sortC (l:List Ch):List Ch:=l.foldl insC []
theorem sortC_snoc (l:List Ch) (d:Ch):sortC (l++[d])=insC (sortC l) d:=by simp[sortC]
theorem rise_sortC (l:List Ch):RiseC (sortC l):=by
 induction l using snoc_ind with
 |h0=>exact List.Pairwise.nil
 |h1 l d ih=>rw[sortC_snoc];exact rise_insC ih
theorem mem_sortC (l:List Ch) (c:Ch):c∈sortC l↔lastC l c.path=some c:=by
 induction l using snoc_ind with
 |h0=>simp[sortC,lastC]
 |h1 l d ih=>
  rw[sortC_snoc,mem_insC (rise_sortC l),lastC_snoc,ih]
  by_cases e:d.path=c.path
  ·rw[if_pos e]
   constructor
   ·rintro (rfl|⟨_,h⟩)
    ·rfl
    ·exact absurd e.symm h
   ·intro h
    exact .inl (Option.some.inj h).symm
  ·rw[if_neg e]
   constructor
   ·rintro (rfl|⟨h,_⟩)
    ·exact absurd rfl e
    ·exact h
   ·intro h
    exact .inr ⟨h,fun k=>e k.symm⟩
theorem rise_ext:∀{a b:List Ch},RiseC a→RiseC b→(∀c,c∈a↔c∈b)→a=b
 |[],[],_,_,_=>rfl
 |[],y::s,_,_,h=>by have:=(h y).2 (by simp);cases this
 |x::r,[],_,_,h=>by have:=(h x).1 (by simp);cases this
 |x::r,y::s,ha,hb,h=>by
  obtain⟨a1,a2⟩:=List.pairwise_cons.1 ha
  obtain⟨b1,b2⟩:=List.pairwise_cons.1 hb
  have hxy:x=y:=by
   rcases List.mem_cons.1 ((h x).1 (by simp)) with e|e
   ·exact e
   ·rcases List.mem_cons.1 ((h y).2 (by simp)) with e2|e2
    ·exact e2.symm
    ·have:=bl_trans (a1 y e2) (b1 x e)
     rw[bl_irrefl] at this
     cases this
  subst hxy
  have:r=s:=rise_ext a2 b2 fun c=>by
   have hr:∀{t:List Ch},(∀z,z∈t→bl x.path z.path=true)→c∈t→c≠x:=by
    intro t ht hc e
    have:=ht c hc
    rw[e,bl_irrefl] at this
    cases this
   constructor
   ·intro hc
    rcases List.mem_cons.1 ((h c).1 (by simp[hc])) with e|e
    ·exact absurd e (hr a1 hc)
    ·exact e
   ·intro hc
    rcases List.mem_cons.1 ((h c).2 (by simp[hc])) with e|e
    ·exact absurd e (hr b1 hc)
    ·exact e
  rw[this]
theorem upd_nodup {α:Type}:∀(m:List (Bytes×α)) (k:Bytes) (x:α),(m.map (·.1)).Nodup→((upd m k x).map (·.1)).Nodup∧∀p,p∈upd m k x↔p=(k,x)∨(p∈m∧p.1≠k)
 |[],k,x,_=>by simp[upd]
 |(k',y)::r,k,x,h=>by
  simp only[List.map_cons,List.nodup_cons] at h
  obtain⟨h1,h2⟩:=h
  obtain⟨i1,i2⟩:=upd_nodup r k x h2
  unfold upd
  split
  ·rename_i e
   subst e
   refine⟨List.nodup_cons.2 ⟨h1,h2⟩,fun p=>?_⟩
   have hr:∀p,p∈r→p.1≠k':=fun p hp e=>h1 (List.mem_map.2 ⟨p,hp,e⟩)
   rw[List.mem_cons,List.mem_cons]
   constructor
   ·rintro (h3|h3)
    ·exact .inl h3
    ·exact .inr ⟨.inr h3,hr p h3⟩
   ·rintro (h3|⟨rfl|h3,h4⟩)
    ·exact .inl h3
    ·exact absurd rfl h4
    ·exact .inr h3
  ·rename_i e
   refine⟨?_,fun p=>?_⟩
   ·simp only[List.map_cons]
    refine List.nodup_cons.2 ⟨fun hm=>?_,i1⟩
    obtain⟨p,hp,hp2⟩:=List.mem_map.1 hm
    rcases (i2 p).1 hp with rfl|⟨h3,_⟩
    ·exact e hp2.symm
    ·exact h1 (List.mem_map.2 ⟨p,h3,hp2⟩)
   ·rw[List.mem_cons,i2 p,List.mem_cons]
    constructor
    ·rintro (rfl|h3|⟨h3,h4⟩)
     ·exact .inr ⟨.inl rfl,e⟩
     ·exact .inl h3
     ·exact .inr ⟨.inr h3,h4⟩
    ·rintro (h3|⟨rfl|h3,h4⟩)
     ·exact .inr (.inl h3)
     ·exact .inl rfl
     ·exact .inr (.inr ⟨h3,h4⟩)
def mapC (l:List Ch):List (Bytes×Ch):=l.foldl (fun m c=>upd m c.path c) []
theorem mapC_snoc (l:List Ch) (d:Ch):mapC (l++[d])=upd (mapC l) d.path d:=by simp[mapC]
theorem mapC_ok (l:List Ch):((mapC l).map (·.1)).Nodup∧∀k c,(k,c)∈mapC l↔c.path=k∧lastC l k=some c:=by
 induction l using snoc_ind with
 |h0=>simp[mapC,lastC]
 |h1 l d ih=>
  obtain⟨h1,h2⟩:=ih
  obtain⟨u1,u2⟩:=upd_nodup (mapC l) d.path d h1
  rw[mapC_snoc]
  refine⟨u1,fun k c=>?_⟩
  rw[u2,h2,lastC_snoc]
  by_cases e:d.path=k
  ·rw[if_pos e]
   constructor
   ·rintro (h|⟨_,h⟩)
    ·cases h
     exact⟨rfl,rfl⟩
    ·exact absurd e.symm h
   ·rintro⟨_,h⟩
    cases h
    rw[e]
    exact .inl rfl
  ·rw[if_neg e]
   constructor
   ·rintro (h|⟨h,_⟩)
    ·cases h
     exact absurd rfl e
    ·exact h
   ·intro h
    exact .inr ⟨h,fun k2=>e k2.symm⟩
theorem sorted_map {l s:List Ch} (hp:s.Perm ((mapC l).map (·.2))) (hs:s.Pairwise fun a b=>bl b.path a.path=false):s=sortC l:=by
 obtain⟨h1,h2⟩:=mapC_ok l
 have hmem:∀c,c∈s↔lastC l c.path=some c:=by
  intro c
  rw[hp.mem_iff,List.mem_map]
  constructor
  ·rintro⟨⟨k,d⟩,hd,rfl⟩
   obtain⟨rfl,h⟩:=(h2 k d).1 hd
   exact h
  ·intro h
   exact⟨(c.path,c),(h2 _ _).2 ⟨rfl,h⟩,rfl⟩
 have hkey:(mapC l).map (·.1)=((mapC l).map (·.2)).map Ch.path:=by
  rw[List.map_map]
  refine List.map_congr_left fun p hp=>?_
  obtain⟨k,c⟩:=p
  exact ((h2 k c).1 hp).1.symm
 rw[hkey] at h1
 have hnd:(s.map Ch.path).Nodup:=((hp.map Ch.path).nodup_iff).2 h1
 have hrise:RiseC s:=by
  have h3:s.Pairwise fun a b=>a.path≠b.path:=by
   have:=hnd
   rw[List.Nodup,List.pairwise_map] at this
   exact this
  exact (hs.and h3).imp fun {a b} ⟨h4,h5⟩=>(bl_total h5).resolve_right (by simp[h4])
 exact rise_ext hrise (rise_sortC l) fun c=>by rw[hmem,mem_sortC]
def normC (l:List Ch):List Ch×Int:=if (l.any fun c=>!mayB c)=true then ([],1) else if batchB (sortC l)=true then (sortC l,0) else ([],1)
theorem batch_rise {l:List Ch} (h:batchB l=true):1≤l.length∧l.length≤20∧(∀c,c∈l→mayB c=true)∧RiseC l:=by
 unfold batchB at h
 simp only[Bool.and_eq_true,decide_eq_true_eq,List.all_eq_true] at h
 exact⟨h.1.1.1,h.1.1.2,h.1.2,h.2⟩
end Go.Proofs.YtbcaejhhgkcgpaaGreatDoor
namespace Go.Proofs.YtbcaejhhgkcgpaaGreatDoor
open Go.Ab
theorem byteAt_nat (n j:Nat):(byteAt n j).toNat=n/256^j%256:=by
 unfold byteAt
 rw[UInt8.toNat_ofNat']
 omega
theorem num_be4 {n:Nat} (h:n < 4294967296):num (be4 n)=n:=by
 unfold num be4
 simp only[List.foldl_cons,List.foldl_nil,byteAt_nat]
 have e0:n/256^0=n:=by simp
 have e1:n/256^1=n/256:=by simp
 have e2:n/256^2=n/65536:=rfl
 have e3:n/256^3=n/16777216:=rfl
 rw[e0,e1,e2,e3]
 omega
theorem num_drop:∀l:Bytes,num (l.dropWhile (·==0))=num l
 |[]=>rfl
 |b::r=>by
  rw[List.dropWhile_cons]
  by_cases h:(b==0)=true
  ·rw[if_pos h,num_drop r]
   have:b=0:=by simpa using h
   subst this
   rfl
  ·rw[if_neg h]
theorem num_nb {n:Nat} (h:n < 4294967296):num (nb n)=n:=by
 unfold nb nbI
 rw[num_drop,show (be4 n).take 4=be4 n from rfl,num_be4 h]
theorem drop_head:∀l:Bytes,(l.dropWhile (·==0)).head?≠some 0
 |[]=>by simp
 |b::r=>by
  rw[List.dropWhile_cons]
  by_cases h:(b==0)=true
  ·rw[if_pos h]
   exact drop_head r
  ·rw[if_neg h]
   simp at h
   simp[h]
theorem getNum_put {n:Nat} (h:n < 4294967296) (r:Bytes):getNum (putN n++r)=some (n,r):=by
 have hl:(nb n).length≤4:=nbI_len n 4
 have hc:(UInt8.ofNat (nb n).length).toNat=(nb n).length:=by
  rw[UInt8.toNat_ofNat']
  omega
 unfold putN
 rw[List.cons_append,getNum_some]
 ·rw[hc,List.take_left,List.drop_left,num_nb h]
 ·rw[hc,List.take_left]
  rintro (h1|h1|h1)
  ·omega
  ·rw[List.length_append] at h1
   omega
  ·exact drop_head _ h1
theorem nums_cat:∀l:List Int,(∀x,x∈l→0≤x∧x≤4294967295)→nums (catN l)=some (l.map Int.toNat)
 |[],_=>nums_nil
 |x::r,h=>by
  have hx:=h x (by simp)
  have e:catN (x::r)=putN x.toNat++catN r:=by simp[catN]
  rw[e,nums_some (getNum_put (by omega) _),nums_cat r (fun y hy=>h y (by simp[hy]))]
  rfl
theorem getM_put {m:Mt} (h:isM m=true):getM (catN (mtL m))=(m,0):=by
 have hin:=mtL_in h
 unfold getM
 rw[nums_cat _ hin]
 have e:(mtL m).map Int.toNat=m.size.toNat::m.mode.toNat::m.ch.length::m.ch.map Int.toNat:=by
  unfold mtL
  simp
 have e2:nI (m.ch.map Int.toNat)=m.ch:=by
  unfold nI
  rw[List.map_map]
  have:∀l:List Int,(∀x,x∈l→0≤x)→l.map ((fun n:Nat=>(n:Int))∘Int.toNat)=l:=by
   intro l
   induction l with
   |nil=>intro _;rfl
   |cons a r ih=>
    intro hl
    rw[List.map_cons,ih (fun x hx=>hl x (by simp[hx]))]
    have:=hl a (by simp)
    congr 1
    simp
    omega
  exact this _ (fun x hx=>(hin x (by unfold mtL;simp[hx])).1)
 have hs:=hin m.size (by unfold mtL;simp)
 have hm:=hin m.mode (by unfold mtL;simp)
 have e3:(⟨(m.size.toNat:Int),(m.mode.toNat:Int),nI (m.ch.map Int.toNat)⟩:Mt)=m:=by
  rw[e2,Int.toNat_of_nonneg hs.1,Int.toNat_of_nonneg hm.1]
 rw[e,getMo_yes (by simp) (by rw[e3];exact h),e3]
theorem readM_there {m:Mt} (h:isM m=true):readM (valueM m false).1=(m,false,0):=by
 have e:(valueM m false).1=1::catN (mtL m):=by
  unfold valueM putM
  rw[if_neg (by simp),if_pos h,if_pos rfl]
 rw[e]
 show (if (1:UInt8)=0∧catN (mtL m)=[] then (zeroMt,true,(0:Int)) else if (1:UInt8)=1 then ((getM (catN (mtL m))).1,false,(getM (catN (mtL m))).2) else (zeroMt,false,30))=_
 rw[if_neg (by simp),if_pos rfl,getM_put h]
theorem readM_gone (m:Mt):readM (valueM m true).1=(zeroMt,true,0):=by
 have e:(valueM m true).1=[0]:=by
  unfold valueM
  rw[if_pos rfl]
 rw[e]
 rfl
end Go.Proofs.YtbcaejhhgkcgpaaGreatDoor
