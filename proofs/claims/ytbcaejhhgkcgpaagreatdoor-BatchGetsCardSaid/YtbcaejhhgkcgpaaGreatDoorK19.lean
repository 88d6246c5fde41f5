/- Parts of the proof, one behind the other. No further condition. -/
import Derived.Test.YtbcaejhhgkcgpaaGreatDoorK18
set_option linter.unusedVariables false
set_option linter.unusedSimpArgs false
namespace Go.Proofs.YtbcaejhhgkcgpaaGreatDoor
open Go.Ab
theorem ch_eqB (x y:Ch):(x.path==y.path&&(x.gone==y.gone&&decide (x.meta_=y.meta_)))=decide (x=y):=by
 obtain⟨a,b,c⟩:=x
 obtain⟨d,e,f⟩:=y
 rw[Bool.eq_iff_iff]
 simp
theorem chs_ne {a b:List Ch} {i:Nat} {x y:Ch} (hx:a[i]? =some x) (hy:b[i]? =some y) (h:x≠y):decide (a=b)=false:=by
 refine decide_eq_false fun e=>h ?_
 subst e
 rw[hx] at hy
 cases hy
 rfl
set_option maxRecDepth 100000 in
set_option maxHeartbeats 8000000 in
theorem chSame_ok (a b:List Ch) (ta tb:Tag) (ha:a.length < 1000000) (hb:b.length < 1000000) (sa:∀c,c∈a→c.meta_.ch.length < 1000000) (sb:∀c,c∈b→c.meta_.ch.length < 1000000):APure Tryz.prog 13 [chA a ta,chA b tb] (.bool (decide (a=b))):=by
 intro M
 refine acalls_of tabOK Tryz.func13 rfl (by decide) (by simp[Tryz.f13]) ?_
 have la:=len_map Ch.av a
 have lb:=len_map Ch.av b
 unfold chA
 by_cases hl:a.length=b.length
 ·have d0:(!decide ((a.length:Int)=(b.length:Int)))=false:=by simp;omega
  repeat' (first|refine DW_VB tabs rfl d0 ?_|refine DW_VI tabs rfl (by first|exact la|exact lb) ?_|refine DW_A tabs rfl ?_|refine DW_nil ?_|refine W_A rfl ?_|refine W_draw mixed [0,1,5,6,2,3,4,7,8,9,10,11,12,13,17,18,14,15,16,19,20,21,22,23,24,25,26,30,31,27,28,29,32,33,34,35,36,37] [.P,.P,.R,.R,.R,.P,.P,.R,.R,.R,.P,.P,.P,.P,.R,.R,.R,.P,.P,.R,.R,.R,.P,.P,.P,.P,.P,.R,.R,.R,.P,.P,.R,.R,.R,.P,.P,.P] rfl rfl (by kernel_rfl) ?_)
  refine W_count a.length (fun i f N=>N=M∧(a.take i=b.take i)∧f=⟨[(0,.sl 5 (a.map Ch.av) ta),(1,.sl 5 (b.map Ch.av) tb),(5,.int .i64 (i:Int))],[]⟩) (Nat.zero_le _) ⟨rfl,by simp,rfl⟩ (Joint.le ?_ (Mem.le_refl _)) ?_
  ·skip
   repeat (refine AF.le_cons rfl ?_)
   exact AF.le_nil rfl
  rintro i f N hi ⟨rfl,hinv,rfl⟩
  by_cases h1:i < a.length
  ·have d1:decide ((i:Int) < (a.length:Int))=true:=by simp;omega
   have hx:a[i]? =some a[i]:=List.getElem?_eq_getElem h1
   have fi:=wrap_succ (i:=i) (by omega)
   have ht:=take_succ hx
   have hm:=List.getElem_mem h1
   generalize a[i]=x at hx ht hm
   have hy:b[i]? =some b[i]:=List.getElem?_eq_getElem (by omega)
   have hmy:=List.getElem_mem (l:=b) (n:=i) (by omega)
   have hu:=take_succ hy
   generalize b[i]=y at hy hu hmy
   have km:=rmSame_ok x.meta_ y.meta_ (sa x hm) (sb y hmy)
   by_cases q1:x.path=y.path
   ·have e1:(!(x.path==y.path))=false:=by simp[q1]
    by_cases h2:x.gone=y.gone
    ·have e2:(x.gone != y.gone)=false:=by simp[h2]
     by_cases h3:x.meta_=y.meta_
     ·rw[decide_eq_true h3] at km
      have hxy:x=y:=by
       have:=ch_eqB x y
       rw[q1,h2,h3] at this
       simpa using this
      repeat' (first|refine DW_VB tabs rfl (by first|exact d1|exact e1|exact e2) ?_|refine DW_VI tabs rfl (by first|exact fi|exact la|exact lb) ?_|refine DW_A tabs rfl ?_|refine DW_nil ?_|refine W_A rfl ?_|refine DW_C rfl km ?_|refine DW_ix tabOK rfl (ixN hx) ?_|refine DW_ix tabOK rfl (ixN hy) ?_|refine W_draw mixed [0,1,5,6,2,3,4,7,8,9,10,11,12,13,17,18,14,15,16,19,20,21,22,23,24,25,26,30,31,27,28,29,32,33,34,35,36,37] [.P,.P,.R,.R,.R,.P,.P,.R,.R,.R,.P,.P,.P,.P,.R,.R,.R,.P,.P,.R,.R,.R,.P,.P,.P,.P,.P,.R,.R,.R,.P,.P,.R,.R,.R,.P,.P,.P] rfl rfl (by kernel_rfl) ?_)
      refine⟨h1,_,_,⟨rfl,by rw[ht,hu,hinv,hxy],rfl⟩,Joint.le ?_ (Mem.le_refl _)⟩
      repeat (refine AF.le_cons rfl ?_)
      exact AF.le_nil rfl
     ·rw[decide_eq_false h3] at km
      rw[chs_ne hx hy (fun e=>h3 (by rw[e]))]
      repeat' (first|refine DW_VB tabs rfl (by first|exact d1|exact e1|exact e2) ?_|refine DW_VI tabs rfl (by first|exact fi|exact la|exact lb) ?_|refine DW_A tabs rfl ?_|refine DW_nil ?_|refine W_A rfl ?_|refine DW_C rfl km ?_|refine DW_ix tabOK rfl (ixN hx) ?_|refine DW_ix tabOK rfl (ixN hy) ?_|refine W_draw mixed [0,1,5,6,2,3,4,7,8,9,10,11,12,13,17,18,14,15,16,19,20,21,22,23,24,25,26,30,31,27,28,29,32,33,34,35,36,37] [.P,.P,.R,.R,.R,.P,.P,.R,.R,.R,.P,.P,.P,.P,.R,.R,.R,.P,.P,.R,.R,.R,.P,.P,.P,.P,.P,.R,.R,.R,.P,.P,.R,.R,.R,.P,.P,.P] rfl rfl (by kernel_rfl) ?_)
      exact⟨rfl,_,rfl,rfl,rfl⟩
    ·have e2:(x.gone != y.gone)=true:=by simp[h2]
     rw[chs_ne hx hy (fun e=>h2 (by rw[e]))]
     repeat' (first|refine DW_VB tabs rfl (by first|exact d1|exact e1|exact e2) ?_|refine DW_VI tabs rfl (by first|exact fi|exact la|exact lb) ?_|refine DW_A tabs rfl ?_|refine DW_nil ?_|refine W_A rfl ?_|refine DW_C rfl km ?_|refine DW_ix tabOK rfl (ixN hx) ?_|refine DW_ix tabOK rfl (ixN hy) ?_|refine W_draw mixed [0,1,5,6,2,3,4,7,8,9,10,11,12,13,17,18,14,15,16,19,20,21,22,23,24,25,26,30,31,27,28,29,32,33,34,35,36,37] [.P,.P,.R,.R,.R,.P,.P,.R,.R,.R,.P,.P,.P,.P,.R,.R,.R,.P,.P,.R,.R,.R,.P,.P,.P,.P,.P,.R,.R,.R,.P,.P,.R,.R,.R,.P,.P,.P] rfl rfl (by kernel_rfl) ?_)
     exact⟨rfl,_,rfl,rfl,rfl⟩
   ·have e1:(!(x.path==y.path))=true:=by simp[q1]
    rw[chs_ne hx hy (fun e=>q1 (by rw[e]))]
    repeat' (first|refine DW_VB tabs rfl (by first|exact d1|exact e1) ?_|refine DW_VI tabs rfl (by first|exact fi|exact la|exact lb) ?_|refine DW_A tabs rfl ?_|refine DW_nil ?_|refine W_A rfl ?_|refine DW_C rfl km ?_|refine DW_ix tabOK rfl (ixN hx) ?_|refine DW_ix tabOK rfl (ixN hy) ?_|refine W_draw mixed [0,1,5,6,2,3,4,7,8,9,10,11,12,13,17,18,14,15,16,19,20,21,22,23,24,25,26,30,31,27,28,29,32,33,34,35,36,37] [.P,.P,.R,.R,.R,.P,.P,.R,.R,.R,.P,.P,.P,.P,.R,.R,.R,.P,.P,.R,.R,.R,.P,.P,.P,.P,.P,.R,.R,.R,.P,.P,.R,.R,.R,.P,.P,.P] rfl rfl (by kernel_rfl) ?_)
    exact⟨rfl,_,rfl,rfl,rfl⟩
  ·have d1:decide ((i:Int) < (a.length:Int))=false:=by simp;omega
   obtain rfl:i=a.length:=by omega
   rw[take_all,hl,take_all] at hinv
   rw[decide_eq_true hinv]
   repeat' (first|refine DW_VB tabs rfl d1 ?_|refine DW_VI tabs rfl la ?_|refine DW_A tabs rfl ?_|refine DW_nil ?_|refine W_A rfl ?_|refine W_draw mixed [0,1,5,6,2,3,4,7,8,9,10,11,12,13,17,18,14,15,16,19,20,21,22,23,24,25,26,30,31,27,28,29,32,33,34,35,36,37] [.P,.P,.R,.R,.R,.P,.P,.R,.R,.R,.P,.P,.P,.P,.R,.R,.R,.P,.P,.R,.R,.R,.P,.P,.P,.P,.P,.R,.R,.R,.P,.P,.R,.R,.R,.P,.P,.P] rfl rfl (by kernel_rfl) ?_)
   exact⟨rfl,_,rfl,rfl,rfl⟩
 ·have d0:(!decide ((a.length:Int)=(b.length:Int)))=true:=by simp;omega
  rw[decide_eq_false (fun e=>hl (by rw[e]))]
  repeat' (first|refine DW_VB tabs rfl d0 ?_|refine DW_VI tabs rfl (by first|exact la|exact lb) ?_|refine DW_A tabs rfl ?_|refine DW_nil ?_|refine W_A rfl ?_|refine W_draw mixed [0,1,5,6,2,3,4,7,8,9,10,11,12,13,17,18,14,15,16,19,20,21,22,23,24,25,26,30,31,27,28,29,32,33,34,35,36,37] [.P,.P,.R,.R,.R,.P,.P,.R,.R,.R,.P,.P,.P,.P,.R,.R,.R,.P,.P,.R,.R,.R,.P,.P,.P,.P,.P,.R,.R,.R,.P,.P,.R,.R,.R,.P,.P,.P] rfl rfl (by kernel_rfl) ?_)
  exact⟨rfl,_,rfl,rfl,rfl⟩
theorem batch_short {l:List Ch} (h:batchB l=true):l.length≤20∧∀c,c∈l→shortCh c:=by
 obtain⟨_,h2,h3,_⟩:=batch_rise h
 refine⟨h2,fun c hc=>?_⟩
 obtain⟨_,h5,h6,_⟩:=bmay_parts (h3 c hc)
 have h7:=bpath_len h5
 unfold isM at h6
 simp only[Bool.and_eq_true,decide_eq_true_eq] at h6
 exact⟨by omega,by omega⟩
theorem norm_short {l:List Ch} (hl:l.length < 1000000) (hs:∀c,c∈l→shortCh c):(normC l).1.length < 1000000∧∀c,c∈(normC l).1→shortCh c:=by
 have h1:=sortC_len l
 unfold normC
 split
 ·exact⟨by simp,fun c hc=>by cases hc⟩
 ·split
  ·exact⟨by show (sortC l).length < _;omega,fun c hc=>hs c (sortC_mem hc)⟩
  ·exact⟨by simp,fun c hc=>by cases hc⟩
theorem normSame_ok (l:List Ch) (hl:l.length < 1000000) (hs:∀c,c∈l→shortCh c):APure Tryz.prog 13 [chA (normC l).1 .none,chA (normC l).1 .none] (.bool true):=by
 obtain⟨h1,h2⟩:=norm_short hl hs
 have:=chSame_ok (normC l).1 (normC l).1 .none .none h1 h1 (fun c hc=>(h2 c hc).2) (fun c hc=>(h2 c hc).2)
 rwa [decide_eq_true rfl] at this
def bc1:Ch:=⟨[97],false,⟨1,0,[]⟩⟩
def bc2:Ch:=⟨[98],false,⟨2,0,[]⟩⟩
def bl0:List Ch:=[⟨[98],true,⟨0,0,[]⟩⟩,bc1,bc2]
def bl1:List Ch:=[bc1,bc2]
def litC (p:Bytes) (g:Bool) (n:Int):AV:=.agg [.str p,.bool g,.int .i64 n,.int .i64 0,.sl 0 [] .full]
def litO (p:Bytes) (g:Bool) (n:Int):Ch:=⟨p,g,⟨n,0,[]⟩⟩
theorem sub_lits (l:List (Bytes×Bool×Int)):Ab.Sub (.sl 5 (l.map fun x=>litC x.1 x.2.1 x.2.2) .full) (chA (l.map fun x=>litO x.1 x.2.1 x.2.2) .none):=by
 refine Sub.trans (slL (ys:=(l.map fun x=>litO x.1 x.2.1 x.2.2).map Ch.av) ?_ ?_ (by simp) ?_) Sub.untag
 ·intro x hx
  obtain⟨a,_,rfl⟩:=List.mem_map.1 hx
  rfl
 ·intro x hx
  obtain⟨a,_,rfl⟩:=List.mem_map.1 hx
  rfl
 ·intro i x y j a b hx hy ha hb
  rw[List.getElem?_map] at hx
  rw[List.getElem?_map,List.getElem?_map] at hy
  cases hi:l[i]? with
  |none=>rw[hi] at hx;cases hx
  |some u=>
   rw[hi] at hx hy
   cases hx
   cases hy
   match j,ha,hb with
   |0,ha,hb=>cases ha;cases hb;exact Sub.refl
   |1,ha,hb=>cases ha;cases hb;exact Sub.refl
   |2,ha,hb=>cases ha;cases hb;exact Sub.refl
   |3,ha,hb=>cases ha;cases hb;exact Sub.refl
   |4,ha,hb=>cases ha;cases hb;exact Sub.nil
   |j+5,ha,hb=>simp[litC,AV.cells] at ha
end Go.Proofs.YtbcaejhhgkcgpaaGreatDoor
namespace Go.Proofs.YtbcaejhhgkcgpaaGreatDoor
open Go.Ab
theorem bl0_short:∀c,c∈bl0→shortCh c:=by
 intro c hc
 simp[bl0,bc1,bc2] at hc
 rcases hc with rfl|rfl|rfl<;>exact⟨by simp,by simp⟩
theorem bl1_batch:batchB bl1=true:=by decide
theorem bl0_norm:normC bl0=(bl1,0):=by decide
theorem zero_norm:normC [⟨[],false,⟨0,0,[]⟩⟩]=([],1):=by decide
theorem nil_norm:normC []=([],1):=by decide
theorem bl0_no:batchB bl0=false:=by decide
theorem get_none:getC []=none:=by decide
theorem bl1_len:(rowT (chsT bl1)).length < 1000000:=by
 unfold rowT
 rw[List.length_append]
 have h1:=putN_len (chsT bl1).length
 have h2:=catT_len (chsT bl1)
 rw[chsT_len] at h2
 have:bl1.length=2:=rfl
 omega
set_option maxRecDepth 100000 in
set_option maxHeartbeats 8000000 in
theorem bLaid_ok:APure Tryz.prog 12 [] (.bool true):=by
 refine pure_sub (closedL_nil) (closed_bool) ?_
 refine acalls_of tabOK Tryz.func12 rfl (by decide) (by simp[Tryz.f12]) ?_
 have n0:=(bNorm_ok bl0 .none (.inl rfl) (by decide) bl0_short).sub (args:=[.sl 5 [litC [98] true 0,litC [97] false 1,litC [98] false 2] .full]) ⟨sub_lits [([98],true,0),([97],false,1),([98],false,2)],trivial⟩
 rw[bl0_norm] at n0
 have n1:=(bNorm_ok [] .none (.inl rfl) (by decide) (fun c hc=>by cases hc)).sub (args:=[.sl 0 [] .full]) ⟨Sub.nil,trivial⟩
 rw[nil_norm] at n1
 have n2:=(bNorm_ok [⟨[],false,⟨0,0,[]⟩⟩] .none (.inl rfl) (by decide) (fun c hc=>by simp at hc;subst hc;exact⟨by simp,by simp⟩)).sub (args:=[.sl 5 [litC [] false 0] .full]) ⟨sub_lits [([],false,0)],trivial⟩
 rw[zero_norm] at n2
 obtain⟨hs1,hs2⟩:=batch_short bl1_batch
 have pp:=bPut_ok bl1 .none (.inl rfl) (by decide) hs2
 rw[put_batch bl1_batch] at pp
 have gg:=bGet_ok (rowT (chsT bl1)) bl1_len
 rw[get_put_batch bl1_batch] at gg
 have g0:=bGet_ok [] (by decide)
 rw[get_none] at g0
 have i1:=bIs_ok bl1 .none (by decide) hs2
 rw[bl1_batch] at i1
 have i0:=(bIs_ok bl0 .none (by decide) bl0_short).sub (args:=[.sl 5 [litC [98] true 0,litC [97] false 1,litC [98] false 2] .full]) ⟨sub_lits [([98],true,0),([97],false,1),([98],false,2)],trivial⟩
 rw[bl0_no] at i0
 have sm:=chSame_ok bl1 bl1 .none .none (by decide) (by decide) (fun c hc=>(hs2 c hc).2) (fun c hc=>(hs2 c hc).2)
 rw[decide_eq_true rfl] at sm
 have s2:=sm.sub (args:=[chA bl1 .none,.sl 5 [litC [97] false 1,litC [98] false 2] .full]) ⟨Sub.refl,sub_lits [([97],false,1),([98],false,2)],trivial⟩
 generalize rowT (chsT bl1)=X at*
 unfold gcA at*
 dsimp only at*
 unfold nmA pcA chA at*
 dsimp only at*
 generalize bl1.map Ch.av=L at*
 repeat' (first|refine DW_A tabs rfl ?_|refine DW_nil ?_|refine W_A rfl ?_|refine DW_C rfl n0 ?_|refine DW_C rfl n1 ?_|refine DW_C rfl n2 ?_|refine DW_C rfl pp ?_|refine DW_C rfl gg ?_|refine DW_C rfl g0 ?_|refine DW_C rfl i1 ?_|refine DW_C rfl i0 ?_|refine DW_C rfl sm ?_|refine DW_C rfl s2 ?_|refine DW_ix tabOK rfl (⟨by decide,rfl⟩) ?_|refine DW_row tabOK rfl ?_|refine W_draw mixed [0,1,2,3,4,5,6,7,8,9,10,11,12,13,14,15,16,17,18,19,20,21,22,23,24,25,26,27,28,29,30,31,32,33,34,35,36,37,38,39,40,41,42,43,44,45,46,47,48,49,50] [.P,.P,.P,.P,.P,.P,.P,.P,.P,.P,.P,.P,.P,.P,.P,.P,.P,.P,.P,.P,.P,.P,.P,.P,.P,.P,.P,.P,.P,.P,.P,.P,.P,.P,.P,.P,.P,.P,.P,.P,.P,.P,.P,.P,.P,.P,.P,.P,.P,.P,.P] rfl rfl (by kernel_rfl) ?_)
 exact⟨rfl,_,rfl,_,rfl,SubC.of_closed closed_bool⟩
set_option maxRecDepth 100000 in
set_option maxHeartbeats 8000000 in
theorem bGets_ok (s:Bytes) (hs:s.length < 4611686018427387904):APure Tryz.prog 3 [.str s] (.bool true):=by
 refine pure_sub (closed1 closed_str) (closed_bool) ?_
 refine acalls_of tabOK Tryz.func3 rfl (by decide) (by simp[Tryz.f3]) ?_
 by_cases h1:1000 < s.length
 ·have d1:decide ((1000:Int) < (s.length:Int))=true:=decide_eq_true (by omega)
  repeat' (first|refine DW_VB tabs rfl d1 ?_|refine DW_A tabs rfl ?_|refine DW_nil ?_|refine W_A rfl ?_)
  exact⟨rfl,_,rfl,_,rfl,SubC.of_closed closed_bool⟩
 ·have d1:decide ((1000:Int) < (s.length:Int))=false:=decide_eq_false (by omega)
  have k1:=bGet_ok s (by omega)
  have k2:=rGetC_ok s (by omega)
  have kl:=bLaid_ok
  have c2:decide ((0:Int)=0)=true:=rfl
  have c3:decide ((30:Int)=30)=true:=rfl
  cases hg:getC s with
  |none=>
   rw[hg] at k1 k2
   have sm:=chSame_ok [] [] .none .none (by decide) (by decide) (fun c hc=>by cases hc) (fun c hc=>by cases hc)
   rw[decide_eq_true rfl] at sm
   unfold gcA at k1 k2
   dsimp only at k1 k2
   unfold nmA at k1 k2
   unfold chA at*
   dsimp only at k1 k2
   repeat' (first|refine DW_VB tabs rfl (by first|exact d1|exact c3) ?_|refine DW_A tabs rfl ?_|refine DW_nil ?_|refine W_A rfl ?_|refine DW_C rfl k1 ?_|refine DW_C rfl k2 ?_|refine DW_C rfl kl ?_|refine DW_C rfl sm ?_)
   exact⟨rfl,_,rfl,_,rfl,SubC.of_closed closed_bool⟩
  |some l=>
   rw[hg] at k1 k2
   obtain⟨hs1,hs2⟩:=batch_short (getC_inv hg).1
   have sm:=chSame_ok l l .none .none (by omega) (by omega) (fun c hc=>(hs2 c hc).2) (fun c hc=>(hs2 c hc).2)
   rw[decide_eq_true rfl] at sm
   unfold gcA at k1 k2
   dsimp only at k1 k2
   unfold nmA at k1 k2
   unfold chA at*
   dsimp only at k1 k2
   generalize l.map Ch.av=L at*
   repeat' (first|refine DW_VB tabs rfl (by first|exact d1|exact c2) ?_|refine DW_A tabs rfl ?_|refine DW_nil ?_|refine W_A rfl ?_|refine DW_C rfl k1 ?_|refine DW_C rfl k2 ?_|refine DW_C rfl kl ?_|refine DW_C rfl sm ?_)
   exact⟨rfl,_,rfl,_,rfl,SubC.of_closed closed_bool⟩
end Go.Proofs.YtbcaejhhgkcgpaaGreatDoor
