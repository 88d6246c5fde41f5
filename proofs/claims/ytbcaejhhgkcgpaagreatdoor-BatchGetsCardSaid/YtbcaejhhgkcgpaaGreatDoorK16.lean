/- Parts of the proof, one behind the other. No further condition. -/
import Derived.Test.YtbcaejhhgkcgpaaGreatDoorK15
import Derived.Lib.LazyBuf
set_option linter.unusedVariables false
set_option linter.unusedSimpArgs false
namespace Go.Proofs.YtbcaejhhgkcgpaaGreatDoor
open Go.Ab
set_option maxRecDepth 100000 in
set_option maxHeartbeats 8000000 in
theorem ownM_ok (m:Mt) (hl:m.ch.length < 1000000):APure Tryz.prog 48 [m.av] m.av:=by
 refine pure_sub (closed1 (closed_mt m)) (closed_mt m) ?_
 refine acalls_of tabOK Tryz.func48 rfl (by decide) (by simp[Tryz.f48]) ?_
 have lc:=len_map (fun n=>AV.int .i64 n) m.ch
 have hc:=closed_iA m.ch (t:=.none) (.inl rfl)
 unfold Mt.av Mt.cells
 unfold iA at*
 repeat' (first|refine DW_VI tabs rfl lc ?_|refine DW_A tabs rfl ?_|refine DW_nil ?_|refine W_A rfl ?_|refine DW_app tabOK rfl rfl (by simp;omega) (by simp;omega) ?_|refine DW_app0 tabOK rfl (by simp;omega) (by simp;omega) ?_)
 exact⟨rfl,_,rfl,_,rfl,SubC.aggL ⟨SubC.of_closed closed_int,SubC.of_closed closed_int,SubC.untag hc,trivial⟩⟩
theorem subc_ch {k id g:Nat} (hk:id < k) (l:List Ch) (x:Ch):SubC k (.sl 5 (l.map Ch.av++[x.av]) (.tok id g)) (chA (l++[x]) (.tok id g)):=by
 unfold chA
 rw[List.map_append]
 exact SubC.tok (decide_eq_true hk) (by
  intro y hy c hc
  refine chs_cells (l++[x]) y ?_ c hc
  rw[List.map_append]
  exact hy)
set_option maxRecDepth 100000 in
set_option maxHeartbeats 8000000 in
theorem ownC_ok (l:List Ch) (tg:Tag) (htg:tg=.none∨tg=.full) (hl:l.length < 1000000) (hs:∀c,c∈l→shortCh c):APure Tryz.prog 15 [chA l tg] (chA l .none):=by
 refine pure_sub (closed1 (closed_chs l htg)) (closed_chs l (.inl rfl)) ?_
 refine acalls_of tabOK Tryz.func15 rfl (by decide) (by simp[Tryz.f15]) ?_
 have la:=len_map Ch.av l
 have hcl:=closed_chs l (t:=.none) (.inl rfl)
 unfold chA at hcl ⊢
 repeat' (first|refine DW_VI tabs rfl la ?_|refine DW_A tabs rfl ?_|refine DW_nil ?_|refine W_A rfl ?_|refine DW_row tabOK rfl ?_|refine DW_app tabOK rfl rfl (by simp;omega) (by simp;omega) ?_|refine DW_app0 tabOK rfl (by simp;omega) (by simp;omega) ?_|refine W_draw mixed [0,1,2,6,7,11,12,3,4,5,8,9,10,13,14,15,16,17,18,19,20] [.P,.P,.P,.R,.R,.R,.P,.P,.R,.R,.R,.P,.P,.R,.R,.R,.P,.P,.P,.E,.P] rfl rfl (by kernel_rfl) ?_)
 refine W_count l.length (fun i f N=>∃g,N=tokM g∧f=⟨[(0,.sl 5 (l.map Ch.av) tg),(3,chA (l.take i) (.tok 0 g)),(4,.int .i64 (i:Int))],[]⟩) (Nat.zero_le _) ⟨0,rfl,rfl⟩ ((Joint.tok 3 rfl (sz':=5) (.inr rfl)).trans (Joint.le ?_ (tokM_of rfl rfl))) ?_
 ·unfold chA
  repeat (refine AF.le_cons rfl ?_)
  exact AF.le_nil rfl
 rintro i f N hi ⟨g,rfl,rfl⟩
 unfold chA
 have lt:=len_map Ch.av (l.take i)
 have lt2:(l.take i).length≤i:=by rw[List.length_take];omega
 by_cases g1:i < l.length
 ·have d1:decide ((i:Int) < (l.length:Int))=true:=decide_eq_true (by omega)
  have hx:l[i]? =some l[i]:=List.getElem?_eq_getElem g1
  have fi:=wrap_succ (i:=i) (by omega)
  have ht:=take_succ hx
  have hm:=List.getElem_mem g1
  generalize l[i]=x at hx ht hm
  have ko:=ownM_ok x.meta_ (hs x hm).2
  have eT:AV.sl 5 ((l.take (i+1)).map Ch.av) (.tok 0 (g+1))=.sl 5 ((l.take i).map Ch.av++[x.av]) (.tok 0 (g+1)):=by rw[ht];simp
  repeat' (first|refine DW_VB tabs rfl d1 ?_|refine DW_VI tabs rfl (by first|exact la|exact fi|exact lt) ?_|refine DW_A tabs rfl ?_|refine DW_nil ?_|refine W_A rfl ?_|refine DW_C rfl ko ?_|refine DW_ix tabOK rfl (ixN hx) ?_|refine DW_row tabOK rfl ?_|refine DW_app tabOK rfl rfl (by simp;omega) (by simp;omega) ?_|refine DW_app0 tabOK rfl (by simp;omega) (by simp;omega) ?_|refine W_draw mixed [0,1,2,6,7,11,12,3,4,5,8,9,10,13,14,15,16,17,18,19,20] [.P,.P,.P,.R,.R,.R,.P,.P,.R,.R,.R,.P,.P,.R,.R,.R,.P,.P,.P,.E,.P] rfl rfl (by kernel_rfl) ?_)
  refine⟨g1,_,_,⟨g+1,rfl,rfl⟩,Joint.le ?_ (tokM_of rfl rfl)⟩
  rw[eT]
  repeat (refine AF.le_cons rfl ?_)
  exact AF.le_nil rfl
 ·have d1:decide ((i:Int) < (l.length:Int))=false:=decide_eq_false (by omega)
  obtain rfl:i=l.length:=by omega
  rw[List.take_length]
  repeat' (first|refine DW_VB tabs rfl d1 ?_|refine DW_VI tabs rfl la ?_|refine DW_A tabs rfl ?_|refine DW_nil ?_|refine W_A rfl ?_|refine DW_row tabOK rfl ?_|refine DW_app tabOK rfl rfl (by simp;omega) (by simp;omega) ?_|refine DW_app0 tabOK rfl (by simp;omega) (by simp;omega) ?_|refine W_draw mixed [0,1,2,6,7,11,12,3,4,5,8,9,10,13,14,15,16,17,18,19,20] [.P,.P,.P,.R,.R,.R,.P,.P,.R,.R,.R,.P,.P,.R,.R,.R,.P,.P,.P,.E,.P] rfl rfl (by kernel_rfl) ?_)
  exact⟨rfl,_,rfl,_,rfl,SubC.untag hcl⟩
theorem sl_to {α:Type} {f:α→AV} {l:List α} {n:Nat} (h:n≤l.length):(0:Int)≤0∧(0:Int)≤(n:Int)∧(n:Int)≤((l.map f).length:Int)∧((l.map f).take (n:Int).toNat).drop (0:Int).toNat=(l.take n).map f:=⟨by omega,by omega,by simp;omega,by simp⟩
theorem sl_from {α:Type} {f:α→AV} {l:List α} {n:Nat} (h:n≤l.length):(0:Int)≤(n:Int)∧(n:Int)≤((l.map f).length:Int)∧((l.map f).length:Int)≤((l.map f).length:Int)∧((l.map f).take ((l.map f).length:Int).toNat).drop (n:Int).toNat=(l.drop n).map f:=⟨by omega,by simp;omega,Int.le_refl _,by
 have:(l.map f).take ((l.map f).length:Int).toNat=l.map f:=List.take_of_length_le (by simp)
 rw[this]
 simp⟩
theorem map_ins (l:List Ch) (c:Ch) (i k:Nat):(l.take i++c::l.drop k).map Ch.av=[]++(l.take i).map Ch.av++[c.av]++(l.drop k).map Ch.av:=by simp
set_option maxRecDepth 100000 in
set_option maxHeartbeats 8000000 in
theorem rputC_ok (l:List Ch) (c:Ch) (hl:l.length < 100000) (hc:shortCh c):APure Tryz.prog 55 [chA l .none,c.av] (chA (insC l c) .none):=by
 refine pure_sub (closed2 (closed_chs l (.inl rfl)) (closed_ch c)) (closed_chs _ (.inl rfl)) ?_
 refine acalls_of tabOK Tryz.func55 rfl (by decide) (by simp[Tryz.f55]) ?_
 have la:=len_map Ch.av l
 have ko:=ownM_ok c.meta_ hc.2
 unfold chA
 repeat' (first|refine DW_VI tabs rfl la ?_|refine DW_A tabs rfl ?_|refine DW_nil ?_|refine W_A rfl ?_|refine DW_row tabOK rfl ?_|refine DW_app tabOK rfl rfl (by simp;omega) (by simp;omega) ?_|refine DW_app0 tabOK rfl (by simp;omega) (by simp;omega) ?_|refine W_draw mixed [0,1,2,3,4,5,6,7,8,9,10,11,12,13] [.P,.P,.P,.P,.P,.P,.P,.R,.R,.R,.R,.R,.P,.P] rfl rfl (by kernel_rfl) ?_|refine W_draw mixed [0,1,2,3,4,5,6,7,8,9,10,11] [.P,.R,.R,.R,.R,.R,.R,.P,.P,.P,.E,.P] rfl rfl (by kernel_rfl) ?_)
 refine W_count l.length (fun i f N=>N=⟨0,[]⟩∧(∀(j:Nat) d,j < i→l[j]? =some d→bl d.path c.path=true)∧f=⟨[(0,.sl 5 (l.map Ch.av) .none),(3,.ref c.cells),(5,.int .i64 (i:Int))],[]⟩) (Nat.zero_le _) ⟨rfl,(fun j d hj=>absurd hj (Nat.not_lt_zero _)),rfl⟩ (Joint.le ?_ (Mem.le_refl _)) ?_
 ·skip
  repeat (refine AF.le_cons rfl ?_)
  exact AF.le_nil rfl
 rintro i f N hi ⟨rfl,hlt,rfl⟩
 by_cases g1:i < l.length
 ·have d1:decide ((i:Int) < (l.length:Int))=true:=decide_eq_true (by omega)
  have hx:l[i]? =some l[i]:=List.getElem?_eq_getElem g1
  have fi:=wrap_succ (i:=i) (by omega)
  generalize l[i]=x at hx
  cases g3:bl x.path c.path
  ·have e:=insC_at l c i hi hlt (fun d hd=>by rw[hx] at hd;cases hd;exact g3)
   by_cases h4:x.path=c.path
   ·rw[if_pos ⟨x,hx,h4⟩] at e
    have d4:(x.path==c.path)=true:=by simp[h4]
    have hcl:=closed_chs (l.take i++c::l.drop (i+1)) (t:=.none) (.inl rfl)
    rw[e]
    unfold chA at hcl
    rw[map_ins] at hcl ⊢
    repeat' (first|refine DW_VB tabs rfl (by first|exact d1|exact g3|exact d4) ?_|refine DW_VI tabs rfl (by first|exact la|exact fi) ?_|refine DW_A tabs rfl ?_|refine DW_nil ?_|refine W_A rfl ?_|refine DW_C rfl ko ?_|refine DW_ix tabOK rfl (ixN hx) ?_|refine DW_slc tabOK rfl (sl_to (Nat.le_of_lt g1)) ?_|refine DW_slc tabOK rfl (sl_from g1) ?_|refine DW_row tabOK rfl ?_|refine DW_app tabOK rfl rfl (by simp;omega) (by simp;omega) ?_|refine DW_app0 tabOK rfl (by simp;omega) (by simp;omega) ?_|refine W_draw mixed [0,1,2,3,4,5,6,7,8,9,10,11,12,13] [.P,.P,.P,.P,.P,.P,.P,.R,.R,.R,.R,.R,.P,.P] rfl rfl (by kernel_rfl) ?_|refine W_draw mixed [0,1,2,3,4,5,6,7,8,9,10,11] [.P,.R,.R,.R,.R,.R,.R,.P,.P,.P,.E,.P] rfl rfl (by kernel_rfl) ?_)
    exact⟨rfl,_,rfl,_,rfl,SubC.untag hcl⟩
   ·rw[if_neg (by rintro⟨d,h5,h6⟩;rw[hx] at h5;cases h5;exact h4 h6)] at e
    have d4:(x.path==c.path)=false:=by simp[h4]
    have hcl:=closed_chs (l.take i++c::l.drop i) (t:=.none) (.inl rfl)
    rw[e]
    unfold chA at hcl
    rw[map_ins] at hcl ⊢
    repeat' (first|refine DW_VB tabs rfl (by first|exact d1|exact g3|exact d4) ?_|refine DW_VI tabs rfl (by first|exact la|exact fi) ?_|refine DW_A tabs rfl ?_|refine DW_nil ?_|refine W_A rfl ?_|refine DW_C rfl ko ?_|refine DW_ix tabOK rfl (ixN hx) ?_|refine DW_slc tabOK rfl (sl_to (Nat.le_of_lt g1)) ?_|refine DW_slc tabOK rfl (sl_from (Nat.le_of_lt g1)) ?_|refine DW_row tabOK rfl ?_|refine DW_app tabOK rfl rfl (by simp;omega) (by simp;omega) ?_|refine DW_app0 tabOK rfl (by simp;omega) (by simp;omega) ?_|refine W_draw mixed [0,1,2,3,4,5,6,7,8,9,10,11,12,13] [.P,.P,.P,.P,.P,.P,.P,.R,.R,.R,.R,.R,.P,.P] rfl rfl (by kernel_rfl) ?_|refine W_draw mixed [0,1,2,3,4,5,6,7,8,9,10,11] [.P,.R,.R,.R,.R,.R,.R,.P,.P,.P,.E,.P] rfl rfl (by kernel_rfl) ?_)
    exact⟨rfl,_,rfl,_,rfl,SubC.untag hcl⟩
  ·repeat' (first|refine DW_VB tabs rfl (by first|exact d1|exact g3) ?_|refine DW_VI tabs rfl (by first|exact la|exact fi) ?_|refine DW_A tabs rfl ?_|refine DW_nil ?_|refine W_A rfl ?_|refine DW_ix tabOK rfl (ixN hx) ?_|refine DW_row tabOK rfl ?_|refine DW_app tabOK rfl rfl (by simp;omega) (by simp;omega) ?_|refine DW_app0 tabOK rfl (by simp;omega) (by simp;omega) ?_|refine W_draw mixed [0,1,2,3,4,5,6,7,8,9,10,11,12,13] [.P,.P,.P,.P,.P,.P,.P,.R,.R,.R,.R,.R,.P,.P] rfl rfl (by kernel_rfl) ?_|refine W_draw mixed [0,1,2,3,4,5,6,7,8,9,10,11] [.P,.R,.R,.R,.R,.R,.R,.P,.P,.P,.E,.P] rfl rfl (by kernel_rfl) ?_)
   refine⟨g1,_,_,⟨rfl,?_,rfl⟩,Joint.le ?_ (Mem.le_refl _)⟩
   ·intro j d hj hd
    by_cases hji:j=i
    ·subst hji
     rw[hx] at hd
     cases hd
     exact g3
    ·exact hlt j d (by omega) hd
   ·skip
    repeat (refine AF.le_cons rfl ?_)
    exact AF.le_nil rfl
 ·have d1:decide ((i:Int) < (l.length:Int))=false:=decide_eq_false (by omega)
  obtain rfl:i=l.length:=by omega
  have e:=insC_at l c l.length hi hlt (fun d hd=>by simp at hd)
  rw[if_neg (by rintro⟨d,h5,_⟩;simp at h5)] at e
  have hcl:=closed_chs (l.take l.length++c::l.drop l.length) (t:=.none) (.inl rfl)
  rw[e]
  unfold chA at hcl
  rw[map_ins] at hcl ⊢
  repeat' (first|refine DW_VB tabs rfl d1 ?_|refine DW_VI tabs rfl la ?_|refine DW_A tabs rfl ?_|refine DW_nil ?_|refine W_A rfl ?_|refine DW_C rfl ko ?_|refine DW_slc tabOK rfl (sl_to (Nat.le_refl _)) ?_|refine DW_slc tabOK rfl (sl_from (Nat.le_refl _)) ?_|refine DW_row tabOK rfl ?_|refine DW_app tabOK rfl rfl (by simp;omega) (by simp;omega) ?_|refine DW_app0 tabOK rfl (by simp;omega) (by simp;omega) ?_|refine W_draw mixed [0,1,2,3,4,5,6,7,8,9,10,11,12,13] [.P,.P,.P,.P,.P,.P,.P,.R,.R,.R,.R,.R,.P,.P] rfl rfl (by kernel_rfl) ?_|refine W_draw mixed [0,1,2,3,4,5,6,7,8,9,10,11] [.P,.R,.R,.R,.R,.R,.R,.P,.P,.P,.E,.P] rfl rfl (by kernel_rfl) ?_)
  exact⟨rfl,_,rfl,_,rfl,SubC.untag hcl⟩
theorem insC_len:∀(l:List Ch) (c:Ch),(insC l c).length≤l.length+1
 |[],c=>Nat.le_refl _
 |d::r,c=>by
  unfold insC
  split
  ·have:=insC_len r c
   simp only[List.length_cons]
   omega
  ·split
   ·simp
   ·simp
theorem sortC_len (l:List Ch):(sortC l).length≤l.length:=by
 induction l using snoc_ind with
 |h0=>exact Nat.le_refl _
 |h1 l d ih=>
  rw[sortC_snoc]
  have:=insC_len (sortC l) d
  simp
  omega
theorem sortC_mem {l:List Ch} {c:Ch} (h:c∈sortC l):c∈l:=(lastC_path l ((mem_sortC l c).1 h)).2
def nmA (x:List Ch×Int):AV:=.tup [chA x.1 .none,.int .i64 x.2]
theorem closed_nmA (x:List Ch×Int):Closed (nmA x):=closed_tup (closed2 (closed_chs _ (.inl rfl)) closed_int)
theorem sub_nm1 {k:Nat}:SubC k (.tup [.sl 0 [] .full,.int .i64 1]) (nmA ([],1)):=SubC.tup2 SubC.nil (SubC.of_closed closed_int)
theorem normC_odd {l:List Ch} {c:Ch} (hm:c∈l) (h:mayB c=false):normC l=([],1):=by
 unfold normC
 rw[if_pos (List.any_eq_true.2 ⟨c,hm,by simp[h]⟩)]
theorem normC_even {l:List Ch} (h:∀c,c∈l→mayB c=true):normC l=if batchB (sortC l)=true then (sortC l,0) else ([],1):=by
 unfold normC
 rw[if_neg]
 intro k
 obtain⟨c,hc,k⟩:=List.any_eq_true.1 k
 rw[h c hc] at k
 cases k
set_option maxRecDepth 100000 in
set_option maxHeartbeats 8000000 in
theorem rNorm_ok (l:List Ch) (tg:Tag) (htg:tg=.none∨tg=.full) (hl:l.length < 10000) (hs:∀c,c∈l→shortCh c):APure Tryz.prog 17 [chA l tg] (nmA (normC l)):=by
 refine pure_sub (closed1 (closed_chs l htg)) (closed_nmA _) ?_
 refine acalls_of tabOK Tryz.func17 rfl (by decide) (by simp[Tryz.f17]) ?_
 have la:=len_map Ch.av l
 unfold chA
 repeat' (first|refine DW_VI tabs rfl la ?_|refine DW_A tabs rfl ?_|refine DW_nil ?_|refine W_A rfl ?_)
 refine W_count l.length (fun i f N=>N=⟨0,[]⟩∧(∀(j:Nat) c,j < i→l[j]? =some c→mayB c=true)∧f=⟨[(0,.sl 5 (l.map Ch.av) tg),(4,chA (sortC (l.take i)) .none),(5,.int .i64 (i:Int))],[]⟩) (Nat.zero_le _) ⟨rfl,(fun j d hj=>absurd hj (Nat.not_lt_zero _)),rfl⟩ (Joint.le ?_ (Mem.le_refl _)) ?_
 ·skip
  repeat' (first|exact AF.le_nil rfl|refine AF.le_cons rfl ?_|refine AF.le_sub (Sub.nil) ?_)
 rintro i f N hi ⟨rfl,hb,rfl⟩
 by_cases g1:i < l.length
 ·have d1:decide ((i:Int) < (l.length:Int))=true:=decide_eq_true (by omega)
  have hx:l[i]? =some l[i]:=List.getElem?_eq_getElem g1
  have fi:=wrap_succ (i:=i) (by omega)
  have ht:=take_succ hx
  have hm:=List.getElem_mem g1
  generalize l[i]=x at hx ht hm
  have km:=rMay_ok x (hs x hm)
  cases hmx:mayB x
  ·rw[hmx] at km
   rw[normC_odd hm hmx]
   repeat' (first|refine DW_VB tabs rfl d1 ?_|refine DW_VI tabs rfl (by first|exact la|exact fi) ?_|refine DW_A tabs rfl ?_|refine DW_nil ?_|refine W_A rfl ?_|refine DW_C rfl km ?_|refine DW_ix tabOK rfl (ixN hx) ?_)
   exact⟨rfl,_,rfl,_,rfl,sub_nm1⟩
  ·rw[hmx] at km
   have hlen:=sortC_len (l.take i)
   rw[List.length_take] at hlen
   have kp:=rputC_ok (sortC (l.take i)) x (by omega) (hs x hm)
   rw[←sortC_snoc,←ht] at kp
   repeat' (first|refine DW_VB tabs rfl d1 ?_|refine DW_VI tabs rfl (by first|exact la|exact fi) ?_|refine DW_A tabs rfl ?_|refine DW_nil ?_|refine W_A rfl ?_|refine DW_C rfl km ?_|refine DW_C rfl kp ?_|refine DW_ix tabOK rfl (ixN hx) ?_)
   refine⟨g1,_,_,⟨rfl,?_,rfl⟩,Joint.le ?_ (Mem.le_refl _)⟩
   ·intro j d hj hd
    by_cases hji:j=i
    ·subst hji
     rw[hx] at hd
     cases hd
     exact hmx
    ·exact hb j d (by omega) hd
   ·skip
    repeat (refine AF.le_cons rfl ?_)
    exact AF.le_nil rfl
 ·have d1:decide ((i:Int) < (l.length:Int))=false:=decide_eq_false (by omega)
  obtain rfl:i=l.length:=by omega
  have hall:∀c,c∈l→mayB c=true:=fun c hc=>by
   obtain⟨j,hj⟩:=List.mem_iff_getElem?.1 hc
   exact hb j c (List.getElem?_eq_some_iff.1 hj).1 hj
  have hlen:=sortC_len l
  have kb:=rBatch_ok (sortC l) .none (by omega) (fun c hc=>hs c (sortC_mem hc))
  rw[List.take_length,normC_even hall]
  cases h:batchB (sortC l)
  ·rw[h] at kb
   rw[if_neg (by simp)]
   repeat' (first|refine DW_VB tabs rfl d1 ?_|refine DW_VI tabs rfl la ?_|refine DW_A tabs rfl ?_|refine DW_nil ?_|refine W_A rfl ?_|refine DW_C rfl kb ?_)
   exact⟨rfl,_,rfl,_,rfl,sub_nm1⟩
  ·rw[h] at kb
   rw[if_pos rfl]
   repeat' (first|refine DW_VB tabs rfl d1 ?_|refine DW_VI tabs rfl la ?_|refine DW_A tabs rfl ?_|refine DW_nil ?_|refine W_A rfl ?_|refine DW_C rfl kb ?_)
   exact⟨rfl,_,rfl,_,rfl,SubC.of_closed (closed_nmA (sortC l,0))⟩
theorem sub_chapp {a b:List Ch} {t:Tag}:Ab.Sub (.sl 5 (a.map Ch.av++b.map Ch.av) t) (chA (a++b) .none):=by
 unfold chA
 rw[List.map_append]
 exact Sub.untag
set_option maxRecDepth 100000 in
set_option maxHeartbeats 8000000 in
theorem rJoin_ok (a b:List Ch) (ta tb:Tag) (hta:ta=.none∨ta=.full) (htb:tb=.none∨tb=.full) (ha:a.length < 1000) (hb:b.length < 1000) (hs:∀c,c∈a++b→shortCh c):APure Tryz.prog 21 [chA a ta,chA b tb] (nmA (normC (a++b))):=by
 refine pure_sub (closed2 (closed_chs a hta) (closed_chs b htb)) (closed_nmA _) ?_
 refine acalls_of tabOK Tryz.func21 rfl (by decide) (by simp[Tryz.f21]) ?_
 have la:=len_map Ch.av a
 have lb:=len_map Ch.av b
 have kn:=(rNorm_ok (a++b) .none (.inl rfl) (by rw[List.length_append];omega) hs).sub (args:=[.sl 5 (a.map Ch.av++b.map Ch.av) (.tok 0 1)]) ⟨sub_chapp,trivial⟩
 have hcl:=closed_nmA (normC (a++b))
 generalize normC (a++b)=z at*
 obtain⟨z,e⟩:=z
 unfold chA
 repeat' (first|refine DW_VI tabs rfl (by first|exact la|exact lb) ?_|refine DW_A tabs rfl ?_|refine DW_nil ?_|refine W_A rfl ?_|refine DW_C rfl kn ?_|refine DW_app tabOK rfl rfl (by simp;omega) (by simp;omega) ?_|refine DW_app0 tabOK rfl (by simp;omega) (by simp;omega) ?_)
 exact⟨rfl,_,rfl,_,rfl,SubC.of_closed hcl⟩
theorem chsT_app (a b:List Ch):chsT (a++b)=chsT a++chsT b:=by simp[chsT]
theorem chsT_short {l:List Ch} (h:∀c,c∈l→mayB c=true):∀t,t∈chsT l→t.length≤4000:=by
 intro t ht
 obtain⟨c,hc,ht⟩:=List.mem_flatMap.1 ht
 obtain⟨_,h5,h6,_⟩:=bmay_parts (h c hc)
 simp only[chT,List.mem_cons,List.not_mem_nil,or_false] at ht
 rcases ht with rfl|rfl
 ·exact bpath_len h5
 ·have:=value_len (g:=c.gone) h6
  omega
theorem tx_app2 (l:List Bytes) (x y:Bytes) {i g:Nat}:AV.sl 1 ((l++[x,y]).map AV.str) (.tok i g)=.sl 1 (l.map AV.str++[.str x]++[.str y]) (.tok i g):=by simp
theorem tx_app2b (l:List Bytes) (x y:Bytes) {i g:Nat}:AV.sl 1 ((l++[x,y]).map AV.str) (.tok i g)=.sl 1 (l.map AV.str++[.str x,.str y]) (.tok i g):=by simp
def pcA (x:Bytes×Int):AV:=.tup [.str x.1,.int .i64 x.2]
theorem closed_pcA (x:Bytes×Int):Closed (pcA x):=closed_tup (closed2 closed_str closed_int)
theorem putC_no {l:List Ch} (h:batchB l=false):putC l=([],1):=by
 unfold putC
 rw[if_neg (by simp[h])]
theorem putC_yes {l:List Ch} (h:batchB l=true):putC l=rowTE (chsT l):=by
 unfold putC
 rw[if_pos h]
set_option maxRecDepth 100000 in
set_option maxHeartbeats 8000000 in
theorem rPutC_ok (l:List Ch) (tg:Tag) (htg:tg=.none∨tg=.full) (hl:l.length < 1000000) (hs:∀c,c∈l→shortCh c):APure Tryz.prog 19 [chA l tg] (pcA (putC l)):=by
 refine pure_sub (closed1 (closed_chs l htg)) (closed_pcA _) ?_
 refine acalls_of tabOK Tryz.func19 rfl (by decide) (by simp[Tryz.f19]) ?_
 have la:=len_map Ch.av l
 have kb:=rBatch_ok l tg hl hs
 unfold chA at*
 cases h:batchB l
 ·rw[h] at kb
  rw[putC_no h]
  repeat' (first|refine DW_VI tabs rfl la ?_|refine DW_A tabs rfl ?_|refine DW_nil ?_|refine W_A rfl ?_|refine DW_C rfl kb ?_|refine DW_row tabOK rfl ?_|refine DW_app tabOK rfl rfl (by simp;omega) (by simp;omega) ?_|refine DW_app0 tabOK rfl (by simp;omega) (by simp;omega) ?_|refine W_draw mixed [0,1,5,6,2,3,4,7,8,9,10,11,12,13,14,15] [.P,.P,.R,.R,.R,.P,.P,.R,.R,.R,.P,.P,.P,.P,.P,.P] rfl rfl (by kernel_rfl) ?_)
  exact⟨rfl,_,rfl,_,rfl,SubC.of_closed (closed_pcA ([],1))⟩
 ·rw[h] at kb
  rw[putC_yes h]
  obtain⟨_,h20,hm,_⟩:=batch_rise h
  have hT:=chsT_short hm
  repeat' (first|refine DW_VI tabs rfl la ?_|refine DW_A tabs rfl ?_|refine DW_nil ?_|refine W_A rfl ?_|refine DW_C rfl kb ?_|refine DW_row tabOK rfl ?_|refine DW_app tabOK rfl rfl (by simp;omega) (by simp;omega) ?_|refine DW_app0 tabOK rfl (by simp;omega) (by simp;omega) ?_|refine W_draw mixed [0,1,5,6,2,3,4,7,8,9,10,11,12,13,14,15] [.P,.P,.R,.R,.R,.P,.P,.R,.R,.R,.P,.P,.P,.P,.P,.P] rfl rfl (by kernel_rfl) ?_)
  refine W_count l.length (fun i f N=>∃g,N=tokM g∧f=⟨[(0,.sl 5 (l.map Ch.av) tg),(4,txA (chsT (l.take i)) (.tok 0 g)),(5,.int .i64 (i:Int))],[]⟩) (Nat.zero_le _) ⟨0,rfl,rfl⟩ ((Joint.tok 4 rfl (sz':=1) (.inr rfl)).trans (Joint.le ?_ (tokM_of rfl rfl))) ?_
  ·unfold txA chsT
   repeat (refine AF.le_cons rfl ?_)
   exact AF.le_nil rfl
  rintro i f N hi ⟨g,rfl,rfl⟩
  unfold txA
  have lr:=len_map AV.str (chsT (l.take i))
  have lr2:=chsT_len (l.take i)
  rw[List.length_take] at lr2
  by_cases g1:i < l.length
  ·have d1:decide ((i:Int) < (l.length:Int))=true:=decide_eq_true (by omega)
   have hx:l[i]? =some l[i]:=List.getElem?_eq_getElem g1
   have fi:=wrap_succ (i:=i) (by omega)
   have ht:=take_succ hx
   have hmm:=List.getElem_mem g1
   generalize l[i]=x at hx ht hmm
   have kv:=rValue_ok x.meta_ x.gone (hs x hmm).2
   have eC:chsT (l.take (i+1))=chsT (l.take i)++[x.path,(valueM x.meta_ x.gone).1]:=by rw[ht,chsT_app];rfl
   repeat' (first|refine DW_VB tabs rfl d1 ?_|refine DW_VI tabs rfl (by first|exact la|exact fi|exact lr) ?_|refine DW_A tabs rfl ?_|refine DW_nil ?_|refine W_A rfl ?_|refine DW_C rfl kv ?_|refine DW_ix tabOK rfl (ixN hx) ?_|refine DW_row tabOK rfl ?_|refine DW_app tabOK rfl rfl (by simp;omega) (by simp;omega) ?_|refine DW_app0 tabOK rfl (by simp;omega) (by simp;omega) ?_|refine W_draw mixed [0,1,5,6,2,3,4,7,8,9,10,11,12,13,14,15] [.P,.P,.R,.R,.R,.P,.P,.R,.R,.R,.P,.P,.P,.P,.P,.P] rfl rfl (by kernel_rfl) ?_)
   refine⟨g1,_,_,⟨g+1+1,rfl,rfl⟩,Joint.le ?_ (tokM_of rfl rfl)⟩
   rw[eC,tx_app2]
   repeat (refine AF.le_cons rfl ?_)
   exact AF.le_nil rfl
  ·have d1:decide ((i:Int) < (l.length:Int))=false:=decide_eq_false (by omega)
   obtain rfl:i=l.length:=by omega
   rw[List.take_length] at lr2 lr ⊢
   have kr:=rRow_ok (chsT l) (.tok 0 g) (by omega) (fun t ht=>by have:=hT t ht;omega)
   unfold txA at kr
   have hcl:=closed_pcA (rowTE (chsT l))
   generalize rowTE (chsT l)=z at*
   repeat' (first|refine DW_VB tabs rfl d1 ?_|refine DW_VI tabs rfl (by first|exact la|exact lr) ?_|refine DW_A tabs rfl ?_|refine DW_nil ?_|refine W_A rfl ?_|refine DW_C rfl kr ?_|refine DW_row tabOK rfl ?_|refine DW_app tabOK rfl rfl (by simp;omega) (by simp;omega) ?_|refine DW_app0 tabOK rfl (by simp;omega) (by simp;omega) ?_|refine W_draw mixed [0,1,5,6,2,3,4,7,8,9,10,11,12,13,14,15] [.P,.P,.R,.R,.R,.P,.P,.R,.R,.R,.P,.P,.P,.P,.P,.P] rfl rfl (by kernel_rfl) ?_)
   exact⟨rfl,_,rfl,_,rfl,SubC.of_closed hcl⟩
end Go.Proofs.YtbcaejhhgkcgpaaGreatDoor
namespace Go.Ab
open Go.RowKit
inductive View (k:Nat) (M:Mem):AV→AV→Prop where
 |sub (x y:AV) (h:∀(μ μ0:Mu) (F:Frm) (w:World) (v:Value),(∀b o,Free μ F b o→Free μ0 F b o)→Rep μ F w x v→Rep μ0 F w y v):View k M x y
 |agg (l l':List AV) (hl:l.length=l'.length) (h:∀(i:Nat) (x y:AV),l[i]? =some x→l'[i]? =some y→View k M x y):View k M (.agg l) (.agg l')
 |tup (l l':List AV) (hl:l.length=l'.length) (h:∀(i:Nat) (x y:AV),l[i]? =some x→l'[i]? =some y→View k M x y):View k M (.tup l) (.tup l')
 |osl (id n cap sz:Nat) (l xs:List AV) (hk:k≤id) (hM:M.get id=some (.cells l)) (hnc:n≤cap) (hn:xs.length=n) (hs:∀x,x∈xs→x.cells.length=sz) (hnl:n*sz≤l.length)
   (h:∀(p:Nat) (x y:AV),l[p]? =some x→(flat xs)[p]? =some y→View k M x y):View k M (.osl id 0 n cap sz) (.sl sz xs .none)
theorem View.rep {k:Nat} {M:Mem} {x y:AV} (h:View k M x y) {μ μ0:Mu} {F:Frm} {w:World} (hg:Gam μ F M w) (hown:∀b o,Own μ0 b o→Own μ b o) (hfree:∀id b o,k≤id→μ id=some (.at b)→¬Own μ0 b o):
  ∀{v:Value},Rep μ F w x v→Rep μ0 F w y v:=by
 induction h with
 |sub x y h=>exact fun hr=>h μ μ0 F w _ (fun b o hf=>⟨hf.1,fun ho=>hf.2 (hown b o ho)⟩) hr
 |agg l l' hl h ih=>
  intro v hr
  obtain⟨c,rfl,hs,h1,h2⟩:=hr.agg_inv
  refine .agg _ c (hs.trans hl) (fun i y u hy hu=>?_) h2
  have hi:i < l.length:=by rw[hl];exact (List.getElem?_eq_some_iff.1 hy).1
  exact ih i _ y (List.getElem?_eq_getElem hi) hy (h1 i _ u (List.getElem?_eq_getElem hi) hu)
 |tup l l' hl h ih=>
  intro v hr
  obtain⟨c,rfl,hs,h1⟩:=hr.tup_inv
  refine .tup _ c (hs.trans hl) (fun i y u hy hu=>?_)
  have hi:i < l.length:=by rw[hl];exact (List.getElem?_eq_some_iff.1 hy).1
  exact ih i _ y (List.getElem?_eq_getElem hi) hy (h1 i _ u (List.getElem?_eq_getElem hi) hu)
 |osl id n cap sz l xs hk hM hnc hn hs hnl h ih=>
  intro v hr
  obtain⟨b,c,ty,e1,e2,e3,e4,e5⟩:=hg.obj id l hM
  have hv:v=.slice (some ⟨b,0,none⟩) n cap:=by
   cases hr with
   |osl _ _ _ _ _ _ h1 h2 hv=>exact hv b e1
  subst hn
  rw[hv]
  refine rep_sl (b:=b) (o:=0) (vals:=fun p=>c.getD p undef) hs hnc (fun _=>rfl) (fun p y hy=>?_) trivial
  have hp:p < l.length:=by
   have h1:=(List.getElem?_eq_some_iff.1 hy).1
   rw[flat_length hs] at h1
   omega
  have hpc:p < c.size:=by omega
  have hx:l[p]? =some l[p]:=List.getElem?_eq_getElem hp
  have hu:c[p]? =some c[p]:=Array.getElem?_eq_getElem hpc
  have hd:c.getD p undef=c[p]:=by simp[Array.getD_eq_getD_getElem?,hu]
  simp only[hd]
  refine⟨e4 p _ hu,?_,⟨fun hF=>hg.frm b _ ⟨id,.inl e1⟩ hF,hfree id b _ hk e1⟩,ih p _ y hx hy (e5 p _ _ hx hu)⟩
  rw[cell_mk e2,Nat.zero_add]
  exact hu
theorem View.closed {k:Nat} {M:Mem} {x:AV} (h:Closed x):View k M x x:=.sub x x fun μ μ0 F w v hf hr=>h μ μ0 F F w v hf hr
theorem View.sl {k:Nat} {M:Mem} {sz:Nat} {xs:List AV} {t:Tag} (hl:∀x,x∈xs→Closed x) (hc:∀x,x∈xs→∀c,c∈x.cells→Closed c):View k M (.sl sz xs t) (.sl sz xs .none):=by
 refine .sub _ _ fun μ μ0 F w v hf hr=>?_
 have h1:Rep μ F w (.sl sz xs .none) v:=by
  obtain⟨A,cap,ad,vals,rfl,hsz,hcap,hA,hone,hcell,hrep,htag⟩:=hr.sl_inv
  exact .sl sz xs .none A cap ad vals hsz hcap hA hone hcell hrep trivial
 exact closed_sl (.inl rfl) hl hc μ μ0 F F w v hf h1
def Scal (x:AV):Prop:=∀(μ μ':Mu) (F F':Frm) (w w':World) (v:Value),Rep μ F w x v→Rep μ' F' w' x v
theorem scal_bool {b:Bool}:Scal (.bool b):=by intro μ μ' F F' w w' v h;cases h;exact .bool _
def deadMu (μ:Mu):Mu:=fun id=>if μ id=none then none else some .dead
theorem dead_own {μ:Mu} {b o:Nat}:¬Own (deadMu μ) b o:=by
 rintro⟨id,h|⟨e,g,h,_⟩⟩<;>·unfold deadMu at h;split at h<;>cases h
theorem gam_dead {μ:Mu} {F:Frm} {M:Mem} {w:World} (h:Gam μ F M w):Gam (deadMu μ) F ⟨M.next,[]⟩ w:=by
 refine⟨?_,?_,?_,?_,?_,?_,?_⟩
 ·intro id
  have:=h.dom id
  unfold deadMu
  by_cases e:μ id=none
  ·simp only[e,if_true]
   exact⟨fun k=>absurd rfl k,fun k=>absurd e (this.2 k)⟩
  ·simp only[e,if_false]
   exact⟨fun _=>this.1 e,fun _=>by simp⟩
 ·intro id l hl;cases hl
 ·intro id g hl;cases hl
 ·intro i j b hi hj
  exfalso
  rcases hi with hi|⟨e,g,hi⟩<;>·unfold deadMu at hi;split at hi<;>cases hi
 ·intro b o ho;exact absurd ho dead_own
 ·exact⟨fun b o ho=>absurd ho dead_own,h.fit.frm⟩
 ·intro id g o vs t hl;cases hl
theorem APure.borrow {P:Program} {g:FuncId} {args args':List AV} {r:AV} (h:APure P g args' r) (hr:Scal r) {M:Mem} (hl:args.length=args'.length) (hv:∀(i:Nat) (x y:AV),args[i]? =some x→args'[i]? =some y→View 0 M x y):
  ACalls P g args M fun e N=>e=.ret r∧N=M:=by
 have h0:=h ⟨M.next,[]⟩
 refine⟨h0.1,fun μ F w vs hg hvs=>?_⟩
 have hargs:RepL (deadMu μ) F w args' vs:=by
  refine⟨hvs.1.trans hl,fun i y u hy hu=>?_⟩
  have hi:i < args.length:=by rw[hl];exact (List.getElem?_eq_some_iff.1 hy).1
  exact (hv i _ y (List.getElem?_eq_getElem hi) hy).rep hg (fun b o ho=>absurd ho dead_own) (fun _ _ _ _ _=>dead_own) (hvs.2 i _ u (List.getElem?_eq_getElem hi) hu)
 refine (h0.2 (deadMu μ) F w vs (gam_dead hg) hargs).mono ?_
 rintro e w' ⟨μ',M',hev,hG,hpost⟩
 have hb:Below w.heap.size w w':=⟨hev.os,hev.tape,hev.output,hev.size,fun k hk=>hev.same k hk (fun o=>dead_own)⟩
 refine⟨μ,M,Evo.of_below μ hb,hg.below hb,?_⟩
 cases e with
 |returned v=>
  obtain⟨x,hx,hx2,_⟩:=hpost
  cases hx2
  exact⟨r,hr _ _ _ _ _ _ _ hx,rfl,rfl⟩
 |panicked ch=>
  obtain⟨x,v,_,_,hx2,_⟩:=hpost
  cases hx2
 |outgrown=>exact hpost.elim
def SubV (k:Nat) (M:Mem) (x y:AV):Prop:=SubC k x y∨View k M x y
def SubsV (k:Nat) (M:Mem) (f:AF):List (Nat×AV)→Prop
 |[]=>True
 |(i,x)::r=>SubV k M (f.get i) x∧SubsV k M f r
theorem SubV.rep {k:Nat} {M:Mem} {x y:AV} (h:SubV k M x y) {μ:Mu} {F:Frm} {w:World} (hg:Gam μ F M w) {v:Value} (hr:Rep μ F w x v):Rep (Go.Ab.cut μ k) F w y v:=by
 rcases h with h|h
 ·exact h μ F w v hr
 ·refine h.rep hg (fun b o ho=>cut_own ho) ?_ hr
  intro id b o hk hid ho
  obtain⟨j,hj⟩:=ho
  have hjk:j < k:=by
   rcases hj with hj|⟨e,g,hj,_⟩
   all_goals
    unfold Go.Ab.cut at hj
    split at hj
    ·assumption
    ·cases hj
  have hl:Lies μ j b:=cut_lies (by
   rcases hj with hj|⟨e,g,hj,_⟩
   ·exact .inl hj
   ·exact .inr ⟨e,g,hj⟩)
  have:=hg.inj j id b hl (.inl hid)
  omega
theorem subsV_get {k:Nat} {M:Mem} {f:AF}:∀{l:List (Nat×AV)} {d:List ADef},SubsV k M f l→∀t,SubV k M (f.get t) (AF.get ⟨l,d⟩ t)
 |[],d,_,t=>.inl SubC.top
 |(i,x)::r,d,h,t=>by
  by_cases e:t=i
  ·subst e
   have:AF.get ⟨(t,x)::r,d⟩ t=x:=by simp[AF.get,lookup]
   rw[this];exact h.1
  ·have:AF.get ⟨(i,x)::r,d⟩ t=AF.get ⟨r,d⟩ t:=by simp[AF.get,lookup,e]
   rw[this];exact subsV_get h.2 t
theorem Joint.cutV {n0:Nat} {f:AF} {M:Mem} {k:Nat} (hk:n0≤k) (hk2:k≤M.next) {t:List (Nat×AV)} {l:List (Nat×AObj)} (hd:f.d=[]) (ht:SubsV k M f t) (ho:ObjsC k M l):Joint n0 f M ⟨t,[]⟩ ⟨k,l⟩:=by
 intro μ0 μ F w0 w n a hn he hg hr
 refine⟨Go.Ab.cut μ k,evo_cut he (fun id h=>Nat.lt_of_lt_of_le (hn id h) hk),gam_cut hg hk2 ho,hr.size,fun i=>(subsV_get ht i).rep hg (hr.tmps i),?_,fun p hp=>by cases hp⟩
 have:=hr.defs
 rw[hd] at this
 show DefRep _ _ _ [] a.defers
 rw[defrep_nil this]
 trivial
theorem ACalls.cutV {P:Program} {g:FuncId} {args:List AV} {M:Mem} {r:AV} {l:List (Nat×AObj)} (h:ACalls P g args M fun e N=>∃x,e=.ret x∧View M.next N x r∧M.next≤N.next∧ObjsC M.next N l):
  ACalls P g args M fun e N=>e=.ret r∧N=⟨M.next,l⟩:=by
 refine h.joint ?_ ?_
 ·rintro x N ⟨y,e,hs,hn,ho⟩
  cases e
  exact⟨r,_,⟨rfl,rfl⟩,Joint.cutV (Nat.le_refl _) hn rfl ⟨.inr hs,trivial⟩ ho⟩
 ·rintro x N ⟨y,e,_⟩
  cases e
def All2 {α β:Type} (R:α→β→Prop):List α→List β→Prop
 |[],[]=>True
 |a::l,b::m=>R a b∧All2 R l m
 |_,_=>False
theorem All2.len {α β:Type} {R:α→β→Prop}:∀{l:List α} {m:List β},All2 R l m→l.length=m.length
 |[],[],_=>rfl
 |a::l,b::m,h=>by simp[All2.len h.2]
 |[],_::_,h=>h.elim
 |_::_,[],h=>h.elim
theorem All2.get {α β:Type} {R:α→β→Prop}:∀{l:List α} {m:List β},All2 R l m→∀{i:Nat} {a:α} {b:β},l[i]? =some a→m[i]? =some b→R a b
 |a::l,b::m,h,0,x,y,hx,hy=>by
  cases hx
  cases hy
  exact h.1
 |a::l,b::m,h,i+1,x,y,hx,hy=>All2.get h.2 (i:=i) (by simpa using hx) (by simpa using hy)
 |[],[],_,i,x,y,hx,_=>by simp at hx
 |[],_::_,h,_,_,_,_,_=>h.elim
 |_::_,[],h,_,_,_,_,_=>h.elim
theorem All2.mono {α β:Type} {R S:α→β→Prop} (k:∀a b,R a b→S a b):∀{l:List α} {m:List β},All2 R l m→All2 S l m
 |[],[],_=>trivial
 |a::l,b::m,h=>⟨k _ _ h.1,All2.mono k h.2⟩
 |[],_::_,h=>h.elim
 |_::_,[],h=>h.elim
theorem All2.perm {α β:Type} {R:α→β→Prop} {l l':List α} (hp:l.Perm l'):∀{m':List β},All2 R l' m'→∃m,m.Perm m'∧All2 R l m:=by
 induction hp with
 |nil=>
  intro m' h
  exact⟨m',List.Perm.refl _,h⟩
 |cons x hp ih=>
  intro m' h
  match m',h with
  |b::m',h=>
   obtain⟨m,h1,h2⟩:=ih h.2
   exact⟨b::m,h1.cons b,h.1,h2⟩
 |swap x y l=>
  intro m' h
  match m',h with
  |b::c::m',h=>exact⟨c::b::m',List.Perm.swap _ _ _,h.2.1,h.1,h.2.2⟩
 |trans h1 h2 ih1 ih2=>
  intro m' h
  obtain⟨m1,k1,k2⟩:=ih2 h
  obtain⟨m2,k3,k4⟩:=ih1 k2
  exact⟨m2,k3.trans k1,k4⟩
def ViewC (k:Nat) (M:Mem) (x y:AV):Prop:=x.cells.length=y.cells.length∧∀(j:Nat) (a b:AV),x.cells[j]? =some a→y.cells[j]? =some b→View k M a b
theorem flat_view {k:Nat} {M:Mem} {rest:List AV}:∀{xs ys:List AV},All2 (ViewC k M) xs ys→∀(p:Nat) (a b:AV),(flat xs++rest)[p]? =some a→(flat ys)[p]? =some b→View k M a b
 |[],[],_,p,a,b,_,hb=>by simp[flat] at hb
 |x::xs,y::ys,h,p,a,b,ha,hb=>by
  obtain⟨⟨h1,h2⟩,h3⟩:=h
  have e1:flat (x::xs)++rest=x.cells++(flat xs++rest):=by simp[flat]
  have e2:flat (y::ys)=y.cells++flat ys:=by simp[flat]
  rw[e1] at ha
  rw[e2] at hb
  by_cases hp:p < x.cells.length
  ·rw[List.getElem?_append_left hp] at ha
   rw[List.getElem?_append_left (by omega)] at hb
   exact h2 p a b ha hb
  ·rw[List.getElem?_append_right (by omega)] at ha hb
   rw[←h1] at hb
   exact flat_view h3 _ a b ha hb
 |[],_::_,h,_,_,_,_,_=>h.elim
 |_::_,[],h,_,_,_,_,_=>h.elim
theorem View.row {k:Nat} {M:Mem} {id cap sz:Nat} {l xs ys:List AV} (hk:k≤id) (hM:M.get id=some (.cells l)) (hx:l.take (xs.length*sz)=flat xs) (hs:∀x,x∈xs→x.cells.length=sz) (hnc:xs.length≤cap) (hnl:xs.length*sz≤l.length) (h:All2 (ViewC k M) xs ys):
  View k M (.osl id 0 xs.length cap sz) (.sl sz ys .none):=by
 have hl:=h.len
 have hys:∀y,y∈ys→y.cells.length=sz:=by
  intro y hy
  obtain⟨i,hi⟩:=List.mem_iff_getElem?.1 hy
  have hix:i < xs.length:=by rw[hl];exact (List.getElem?_eq_some_iff.1 hi).1
  have hx:=List.getElem?_eq_getElem hix
  rw[←(h.get hx hi).1]
  exact hs _ (List.getElem_mem hix)
 refine .osl id xs.length cap sz l ys hk hM hnc hl.symm hys hnl ?_
 intro p a b ha hb
 have e:l=flat xs++l.drop (xs.length*sz):=by rw[←hx,List.take_append_drop]
 rw[e] at ha
 exact flat_view h p a b ha hb
end Go.Ab
namespace Go.Ab
open Go.RowKit
theorem opG_nils {P:Program} {o:Oper} {ts yt e:TypeId} (ht:P.underlying ts=some (.slice e)) {x y:Operand} (ho:o.op=.binOp .eql ts x y yt) {ρ:Operand→AV} {M:Mem} {sz sz':Nat} {xs:List AV} {t:Tag} (hx:ρ x=.sl sz xs t) (hy:y=.const (.slice none 0 0)) {Kp:AV→Mem→Prop}:
  OpG P o ρ M (fun u M'=>∃b,u=.bool b∧(xs≠[]→b=false)∧M'=M) Kp:=by
 intro μ F w a hg hr next Q' g1 g2
 have r1:=hr x (by simp[ho,Op.operands])
 rw[hx] at r1
 obtain⟨A,cap,ad,vals,hv,_,_,hA,_⟩:=r1.sl_inv
 have e2:a.eval y=.slice none 0 0:=by rw[hy];rfl
 have hrun:(execOp a.eval o).run P w=.ok (.value (.bool A.isNone)) w:=by
  have:=Go.run_eql_slice_nil (P:=P) w ts e A xs.length cap ht
  simp[execOp,ho,hv,e2,eqGuard,this]
 unfold Oper.wp
 rw[hrun]
 refine g1 μ M w _ _ (Evo.refl w μ) hg (.bool _) ⟨_,rfl,fun hne=>?_,rfl⟩
 have:=(hA (List.length_pos_iff.2 hne)).1
 rw[this]
 rfl
theorem opP_app_none {P:Program} {τ:Tab} (hτ:TabOK P τ) {t tx e:TypeId} {ti ei xi:TI} (hin:AppIn P τ t e ti ei) (hxi:lookup τ tx=some xi) {s x:Operand} {ty:TypeId} {ρ:Operand→AV} {sz:Nat} {xs:List AV} {tg:Tag} (hS:ρ s=.sl sz xs tg)
  (hf:srcFits xi.k (ρ x)=true) (hX:srcOf ei.size (ρ x)=some []):OpP P (.call {callee:=.builtin .append,args:=#[s,x],argTypes:=#[t,tx]}) ty ρ (.sl sz xs tg):=by
 refine opP_of_same ?_
 intro μ F w ρc o ho hty hr
 have hs:=hr s (by simp[Op.operands,Call.operands])
 have hx:=hr x (by simp[Op.operands,Call.operands])
 rw[hS] at hs
 obtain⟨hsy,news,hsrc,hnew⟩:=src_of hτ hxi hf hX hx
 obtain⟨ft,dt,zt,HT⟩:=TI.spec hτ hin.tl
 obtain⟨fe,de,ze,HE⟩:=TI.spec hτ hin.el
 have hfi:=HT.fits
 rw[hin.tk] at hfi
 have hdd:dt=.slice e:=by
  cases dt<;>simp[TK.fits] at hfi
  rw[hfi]
 subst hdd
 obtain⟨A,cap,ad,vals,hv,_,hcap,_⟩:=hs.sl_inv
 have hn0:news=[]:=List.eq_nil_of_length_eq_zero (by have:=hsrc.newsLen;simpa using this)
 subst hn0
 refine⟨ρc s,?_,by rw[hv] at hs ⊢;exact hs⟩
 have hl:=hsrc.len w
 have hcell:=hsrc.cells
 have hsize:=HE.size
 simp only[List.length_nil] at hl hcell
 rw[←hsize] at hcell
 have hrun:(Builtin.append_ #[t,tx] o.type #[ρc s,ρc x]).run P w=.ok (ρc s) w:=by
  rw[hv]
  rcases hsrc.kind with ⟨e',hk⟩|hk<;>cases A<;>simp[Builtin.append_,run_underlying HT.und,run_underlying hk,sizeOf,typeInfo,HE.info,hl,hcap,hcell,storeCells]
 simp[execOp,ho,resolve,invoke,builtin,hrun]
theorem opR_entry {P:Program} {y:Operand} {ty:TypeId} {ρ:Operand→AV} {M:Mem} {it id j:Nat} {l:List (List UInt8×AV)} {seen:Array Nat} {k:List UInt8} {x:AV} (hy:ρ y=.ptr it 0) (hI:IsIter M it id l.length (seen.push j)) (hM:IsMap M id l) (hj:l[j]? =some (k,x)):
  OpR P (.entry y) ty ρ M (.tup [.str k,x]):=by
 obtain⟨ps,hps,hM⟩:=hM
 obtain⟨b,hI⟩:=hI
 intro μ F w ρc o hg ho hty hr
 have r1:=hr y (by simp[Op.operands])
 rw[hy] at r1
 obtain⟨b1,k1,k2,k3⟩:=hg.raw id _ _ _ _ hM
 have k1:μ id=some (.at b1):=k1
 obtain⟨b2,j1,j2,j3⟩:=hg.raw it _ _ _ _ hI
 have j1:μ it=some (.at b2):=j1
 have e1:=rep_ptr_inv r1 j1
 have hbb:b=b1:=by
  have:=rep_map_inv (j3 0) k1
  injection this with h
  injection h
 subst hbb
 have hlen:ps.length=l.length:=by
  have:=congrArg List.length hps
  simpa using this
 rw[hlen] at k2
 have hjl:j < l.length:=(List.getElem?_eq_some_iff.1 hj).1
 obtain⟨p,hp⟩:∃p,ps[j]? =some p:=⟨_,List.getElem?_eq_getElem (by omega)⟩
 have hkey:k=p.1:=by
  have:=congrArg (·[j]?) hps
  simp only[List.getElem?_map,hp,hj,Option.map_some,Option.some.injEq] at this
  exact this.symm
 have he:({key:=.string ⟨p.1.toArray⟩,val:=p.2,born:=j}:MapEntry)∈(entsF 0 ps).toArray.toList:=by
  refine List.mem_of_getElem? (i:=j) ?_
  show (entsF 0 ps)[j]? =_
  rw[entsF_get,hp,Nat.zero_add]
  rfl
 have hnd:((entsF 0 ps).toArray.toList.map (·.born)).Nodup:=by
  show ((entsF 0 ps).map (·.born)).Nodup
  rw[entsF_born]
  exact List.nodup_range'
 have hrun:=run_entry_at (P:=P) w b2 b l.length seen (entsF 0 ps).toArray l.length _ j2 k2 he hnd
 refine⟨.tuple #[.string ⟨p.1.toArray⟩,p.2],w,?_,Below.refl _ _,?_⟩
 ·simp[execOp,ho,e1,hrun]
 ·refine .tup _ _ rfl ?_
  have hv:=k3 j
  rw[lookup_enum0] at hv
  simp only[List.getElem?_map,hj,Option.map_some,Option.getD_some] at hv
  have hv2:(ps.map (·.2)).toArray.getD j undef=p.2:=by
   simp[Array.getD_eq_getD_getElem?,hp]
  rw[hv2] at hv
  intro i z v hz hv'
  match i,hz with
  |0,hz=>
   cases hz
   simp at hv'
   subst hv'
   rw[hkey]
   exact .str _
  |1,hz=>
   cases hz
   simp at hv'
   subst hv'
   exact hv
  |i+2,hz=>simp at hz
section
variable {P:Program} {τ:Tab} {ops:Array Oper} {cls:Nat→Cls} {Q:AX→AF→Mem→Prop} {ds:List ADef} {ls:List Nat} {i:Nat} {t:List (Nat×AV)} {M:Mem}
def stepNils (ops:Array Oper) (cls:Nat→Cls) (ds:List ADef) (i:Nat) (t:List (Nat×AV)):Option (Nat×TypeId×List AV):=
 match ops[i]? with
 |some o=>
  match wantedA ops ⟨t,ds⟩ o,o.dst,isE (cls i),o.op with
  |some true,some d,true,.binOp .eql ts x (.const (.slice none 0 0)) _=>(match AF.ev ⟨t,ds⟩ x with
   |.sl _ xs _=>some (d,ts,xs)
   |_=>none)
  |_,_,_,_=>none
 |none=>none
theorem DW_nils {d:Nat} {ts e:TypeId} {xs:List AV} (hs:stepNils ops cls ds i t=some (d,ts,xs)) (ht:P.underlying ts=some (.slice e)) (h:∀b:Bool,(xs≠[]→b=false)→DW P ops cls Q ds ls ((d,.bool b)::t) M):DW P ops cls Q ds (i::ls) t M:=by
 unfold stepNils at hs
 split at hs
 ·rename_i o hi
  split at hs
  ·rename_i d' ts' x yt hw hd hc ho
   split at hs
   ·rename_i sz xs' tg hx
    cases hs
    refine DW_run hi hw ?_
    refine SC.of_G hc (by intro c hc;rw[ho] at hc;cases hc) ?_
    refine OpG.mono (opG_nils ht ho (sz':=0) hx rfl) ?_
    rintro u M' ⟨b,rfl,hb,rfl⟩
    have:=h b hb
    simpa [AF.put,hd] using this
   ·cases hs
  ·cases hs
 ·cases hs
def stepEnt (ops:Array Oper) (cls:Nat→Cls) (ds:List ADef) (i:Nat) (t:List (Nat×AV)):Option (Nat×Nat):=
 match ops[i]? with
 |some o=>
  match wantedA ops ⟨t,ds⟩ o,o.dst,notP (cls i),o.op with
  |some true,some d,true,.entry y=>(match AF.ev ⟨t,ds⟩ y with
   |.ptr it 0=>some (d,it)
   |_=>none)
  |_,_,_,_=>none
 |none=>none
theorem DW_ment {d it id j:Nat} (hs:stepEnt ops cls ds i t=some (d,it)) {l:List (List UInt8×AV)} {seen:Array Nat} {k:List UInt8} {x:AV} (hI:IsIter M it id l.length (seen.push j)) (hM:IsMap M id l) (hj:l[j]? =some (k,x))
  (h:DW P ops cls Q ds ls ((d,.tup [.str k,x])::t) M):DW P ops cls Q ds (i::ls) t M:=by
 unfold stepEnt at hs
 split at hs
 ·rename_i o hi
  split at hs
  ·rename_i d' y hw hd hc ho
   split at hs
   ·rename_i it' hy
    cases hs
    exact DW_ofR hi hw hd hc (by rw[ho];exact opR_entry hy hI hM hj) h
   ·cases hs
  ·cases hs
 ·cases hs
theorem DW_appE (hτ:TabOK P τ) {d:Nat} {o:Oper} (hi:ops[i]? =some o) (hw:wantedA ops ⟨t,ds⟩ o=some true) (hd:o.dst=some d) {ty tx e:TypeId} {s x:Operand} (ho:o.op=.call {callee:=.builtin .append,args:=#[s,x],argTypes:=#[ty,tx]})
  {sz:Nat} {xs:List AV} {tg:Tag} (hS:AF.ev ⟨t,ds⟩ s=.sl sz xs tg) {ti ei xi:TI} (ht:lookup τ ty=some ti) (hk:ti.k=.slice e) (he:lookup τ e=some ei) (hp:decide (0 < ei.size)=true) (hxi:lookup τ tx=some xi) (hf:srcFits xi.k (AF.ev ⟨t,ds⟩ x)=true) (hX:srcOf ei.size (AF.ev ⟨t,ds⟩ x)=some [])
  (h:DW P ops cls Q ds ls ((d,.sl sz xs tg)::t) M):DW P ops cls Q ds (i::ls) t M:=
 DW_ofP hi hw hd (by rw[ho];exact opP_app_none hτ ⟨ht,hk,he,of_decide_eq_true hp⟩ hxi hS hf hX) h
end
end Go.Ab
namespace Go.Proofs.YtbcaejhhgkcgpaaGreatDoor
open Go.Ab
def rowCA (r:List Ch×Bool):AV:=.sl 5 (r.1.map Ch.av) (tgB r.2)
theorem closed_rowC (r:List Ch×Bool):Closed (rowCA r):=by
 obtain⟨l,b⟩:=r
 cases b
 ·exact closed_chs l (.inl rfl)
 ·exact closed_chs l (.inr rfl)
theorem closed_rowsC (rows:List (List Ch×Bool)) (b:Bool):Closed (.sl 1 (rows.map rowCA) (tgB b)):=by
 have h1:∀x,x∈rows.map rowCA→Closed x:=by
  intro x hx
  obtain⟨a,_,rfl⟩:=List.mem_map.1 hx
  exact closed_rowC a
 have h2:∀x,x∈rows.map rowCA→∀c,c∈x.cells→Closed c:=by
  intro x hx c hc
  obtain⟨a,_,rfl⟩:=List.mem_map.1 hx
  have:c=rowCA a:=by simpa [rowCA,AV.cells] using hc
  exact this ▸ closed_rowC a
 cases b
 ·exact closed_sl (.inl rfl) h1 h2
 ·exact closed_sl (.inr rfl) h1 h2
def flatRC (rows:List (List Ch×Bool)):List Ch:=(rows.map (·.1)).flatten
theorem flatRC_succ {rows:List (List Ch×Bool)} {i:Nat} {r:List Ch×Bool} (h:rows[i]? =some r):flatRC (rows.take (i+1))=flatRC (rows.take i)++r.1:=by
 unfold flatRC
 rw[take_succ h]
 simp
def flC (l:List Ch):List AV:=flat (l.map Ch.av)
theorem chs_five (l:List Ch):∀x,x∈l.map Ch.av→x.cells.length=5:=by
 intro x hx
 obtain⟨a,_,rfl⟩:=List.mem_map.1 hx
 rfl
theorem flC_len (l:List Ch):(flC l).length=l.length*5:=by
 unfold flC
 rw[flat_length (chs_five l)]
 simp
theorem flC_app (a b:List Ch):flC (a++b)=flC a++flC b:=by simp[flC,flat]
theorem flC_closed (l:List Ch):∀x,x∈flC l→Closed x:=by
 intro x hx
 unfold flC flat at hx
 obtain⟨y,hy,hx⟩:=List.mem_flatMap.1 hx
 exact chs_cells l y hy x hx
theorem flatRCL_le (rows:List (List Ch×Bool)) (i:Nat):(flatRC (rows.take i)).length≤(flatRC rows).length:=by
 unfold flatRC
 have:rows=rows.take i++rows.drop i:=(List.take_append_drop i rows).symm
 conv=>rhs;rw[this]
 rw[List.map_append,List.flatten_append,List.length_append]
 omega
def catFC (rows:List (List Ch×Bool)) (b:Bool) (i:Nat) (x:AV):List (Nat×AV):=[(6,x),(25,.sl 1 (rows.map rowCA) (tgB b)),(26,.int .i64 (rows.length:Int)),(27,.int .i64 (i:Int))]
theorem catC_K {k id:Nat} {rows:List (List Ch×Bool)} {b:Bool} {i:Nat} {x:AV} {f:AF} (h6:SubK k id (f.get 6) x) (h25:f.get 25=.sl 1 (rows.map rowCA) (tgB b)) (h26:f.get 26=.int .i64 (rows.length:Int)) (h27:f.get 27=.int .i64 (i:Int)):SubsK k id f (catFC rows b i x):=by
 refine⟨h6,?_,?_,?_,trivial⟩
 ·rw[h25];exact SubK.of_closed (closed_rowsC rows b)
 ·rw[h26];exact SubK.of_closed closed_int
 ·rw[h27];exact SubK.of_closed closed_int
theorem catC_next {A B:List Ch} {cap':Nat} {cells l':List AV} (hc:cells.take (A.length*5)=flC A) (g1:A.length+(B.map Ch.av).length≤cap') (g2:l'.length=cap'*5)
  (g3:l'.take ((A.length+(B.map Ch.av).length)*5)=cells.take (A.length*5)++flat (B.map Ch.av)):
  l'.take (flC (A++B)).length=flC (A++B)∧l'.length=cap'*5∧(flC (A++B)).length≤cap'*5:=by
 rw[List.length_map] at g1 g3
 rw[hc] at g3
 refine⟨?_,g2,?_⟩
 ·rw[flC_len,List.length_append,flC_app]
  exact g3
 ·rw[flC_len,List.length_append]
  omega
set_option maxRecDepth 100000 in
theorem growC_ok (n:Nat) (h0:0 < n) (h1:n < 1000000) (M:Mem):ACalls Tryz.prog 114 [.sl 0 [] .full,.int .i64 (n:Int)] M (fun e M'=>∃(cap:Nat) (l':List AV),n≤cap∧l'.length=cap*5∧e=.ret (.osl M.next 0 0 cap 5)∧M'=M.push (.cells l')):=by
 refine acalls_of tabOK Tryz.func114 rfl (by decide) (by simp[Tryz.f114]) ?_
 have d1:decide ((n:Int) < 0)=false:=by simp
 have w0:IntKind.wrap .i64 ((n:Int) - 0)=(n:Int):=(Go.Ab.wrap_small (by omega) (by omega)).trans (by omega)
 have d2:decide ((0:Int) < (n:Int))=true:=by simp;omega
 repeat' (first|refine DW_VB tabs rfl d1 ?_|refine DW_A tabs rfl ?_|refine DW_nil ?_|refine W_A rfl ?_|refine DW_app tabOK rfl rfl (by simp;omega) (by simp;omega) ?_|refine DW_app0 tabOK rfl (by simp;omega) (by simp;omega) ?_)
 refine DW_cap tabOK rfl rfl rfl rfl rfl rfl rfl ?_
 repeat' (first|refine DW_VB tabs rfl d2 ?_|refine DW_VI tabs rfl w0 ?_|refine DW_A tabs rfl ?_|refine DW_nil ?_|refine W_A rfl ?_|refine DW_app tabOK rfl rfl (by simp;omega) (by simp;omega) ?_|refine DW_app0 tabOK rfl (by simp;omega) (by simp;omega) ?_)
 refine DW_cap tabOK rfl rfl rfl rfl rfl rfl rfl ?_
 repeat' (first|refine DW_A tabs rfl ?_|refine DW_nil ?_|refine W_A rfl ?_|refine DW_app tabOK rfl rfl (by simp;omega) (by simp;omega) ?_|refine DW_app0 tabOK rfl (by simp;omega) (by simp;omega) ?_)
 refine DW_slice00 tabOK rfl rfl rfl rfl rfl rfl rfl rfl rfl ?_
 repeat' (first|refine DW_A tabs rfl ?_|refine DW_nil ?_|refine W_A rfl ?_|refine DW_app tabOK rfl rfl (by simp;omega) (by simp;omega) ?_|refine DW_app0 tabOK rfl (by simp;omega) (by simp;omega) ?_)
 refine DW_zapp tabOK rfl rfl rfl rfl rfl (n:=n) rfl rfl rfl rfl rfl rfl rfl rfl h0 (by simp;omega) (by omega) ?_
 intro cap' l' g1 g2
 repeat' (first|refine DW_A tabs rfl ?_|refine DW_nil ?_|refine W_A rfl ?_|refine DW_app tabOK rfl rfl (by simp;omega) (by simp;omega) ?_|refine DW_app0 tabOK rfl (by simp;omega) (by simp;omega) ?_)
 refine DW_oslice tabOK rfl rfl rfl rfl rfl (l:=l') rfl (by rw[Mem.get_push,if_pos rfl]) rfl rfl rfl rfl (by omega) (by simp) g1 ?_
 repeat' (first|refine DW_A tabs rfl ?_|refine DW_nil ?_|refine W_A rfl ?_|refine DW_app tabOK rfl rfl (by simp;omega) (by simp;omega) ?_|refine DW_app0 tabOK rfl (by simp;omega) (by simp;omega) ?_)
 exact⟨rfl,_,rfl,cap',l',g1,g2,rfl,rfl⟩
set_option maxRecDepth 100000 in
theorem concatC_ok (rows:List (List Ch×Bool)) (b:Bool) (hr:rows.length < 1000) (h0:0 < (flatRC rows).length) (h1:(flatRC rows).length < 100000):APure Tryz.prog 60 [.sl 1 (rows.map rowCA) (tgB b)] (.sl 5 ((flatRC rows).map Ch.av) .none):=by
 refine pure_sub (closed1 (closed_rowsC rows b)) (closed_chs _ (.inl rfl)) ?_
 refine acalls_of tabOK Tryz.func60 rfl (by decide) (by simp[Tryz.f60]) ?_
 have la:((rows.map rowCA).length:Int)=(rows.length:Int):=by simp
 repeat' (first|refine DW_VI tabs rfl la ?_|refine DW_A tabs rfl ?_|refine DW_nil ?_|refine W_A rfl ?_|refine DW_app tabOK rfl rfl (by simp;omega) (by simp;omega) ?_|refine DW_app0 tabOK rfl (by simp;omega) (by simp;omega) ?_)
 refine W_count rows.length (fun i f N=>N=⟨0,[]⟩∧f=⟨[(0,.sl 1 (rows.map rowCA) (tgB b)),(3,.int .i64 ((flatRC (rows.take i)).length:Int)),(9,.sl 1 (rows.map rowCA) (tgB b)),(10,.int .i64 (rows.length:Int)),(11,.int .i64 (i:Int))],[]⟩) (Nat.zero_le _) ⟨rfl,rfl⟩ (Joint.le ?_ (Mem.le_refl _)) ?_
 ·skip
  repeat (refine AF.le_cons rfl ?_)
  exact AF.le_nil rfl
 ·rintro i f N hi ⟨rfl,rfl⟩
  by_cases hi1:i < rows.length
  ·have d1:decide ((i:Int) < (rows.length:Int))=true:=by simp;omega
   have hx:rows[i]? =some rows[i]:=List.getElem?_eq_getElem hi1
   have fi:=wrap_succ (i:=i) (by omega)
   have hs:=flatRC_succ hx
   have hle:=flatRCL_le rows (i+1)
   generalize rows[i]=r at hx hs
   rw[hs,List.length_append] at hle
   have lr:((r.1.map Ch.av).length:Int)=(r.1.length:Int):=by simp
   have w1:IntKind.wrap .i64 (((flatRC (rows.take i)).length:Int)+(r.1.length:Int))=((flatRC (rows.take (i+1))).length:Int):=by
    rw[hs,List.length_append]
    exact (Go.Ab.wrap_small (by omega) (by omega)).trans (by omega)
   have d2:decide (((flatRC (rows.take (i+1))).length:Int) < 0)=false:=by simp
   repeat' (first|refine DW_VB tabs rfl d1 ?_|refine DW_VI tabs rfl (by first|exact fi|exact la) ?_|refine DW_A tabs rfl ?_|refine DW_nil ?_|refine W_A rfl ?_|refine DW_app tabOK rfl rfl (by simp;omega) (by simp;omega) ?_|refine DW_app0 tabOK rfl (by simp;omega) (by simp;omega) ?_)
   refine DW_ix tabOK rfl (ixN hx) ?_
   repeat' (first|refine DW_VB tabs rfl d2 ?_|refine DW_VI tabs rfl (by first|exact fi|exact la|exact lr|exact w1) ?_|refine DW_A tabs rfl ?_|refine DW_nil ?_|refine W_A rfl ?_|refine DW_app tabOK rfl rfl (by simp;omega) (by simp;omega) ?_|refine DW_app0 tabOK rfl (by simp;omega) (by simp;omega) ?_)
   refine⟨hi1,_,_,⟨rfl,rfl⟩,Joint.le ?_ (Mem.le_refl _)⟩
   repeat (refine AF.le_cons rfl ?_)
   exact AF.le_nil rfl
  ·have d1:decide ((i:Int) < (rows.length:Int))=false:=by simp;omega
   obtain rfl:i=rows.length:=by omega
   rw[List.take_length]
   repeat' (first|refine DW_VB tabs rfl d1 ?_|refine DW_A tabs rfl ?_|refine DW_nil ?_|refine W_A rfl ?_|refine DW_app tabOK rfl rfl (by simp;omega) (by simp;omega) ?_|refine DW_app0 tabOK rfl (by simp;omega) (by simp;omega) ?_)
   refine DW_call rfl rfl rfl rfl rfl rfl (growC_ok (flatRC rows).length h0 (by omega) ⟨0,[]⟩) ?_ (fun u M' ⟨_,_,_,_,e,_⟩=>by cases e)
   rintro u M' ⟨cap,l',g1,g2,g3,rfl⟩
   cases g3
   repeat' (first|refine DW_VI tabs rfl la ?_|refine DW_A tabs rfl ?_|refine DW_nil ?_|refine W_A rfl ?_|refine DW_app tabOK rfl rfl (by simp;omega) (by simp;omega) ?_|refine DW_app0 tabOK rfl (by simp;omega) (by simp;omega) ?_)
   refine W_count rows.length (fun i f N=>∃(cap:Nat) (cells:List AV) (id:Nat),id≤1∧(flatRC (rows.take i)).length≤cap∧cells.take ((flatRC (rows.take i)).length*5)=flC (flatRC (rows.take i))∧cells.length=cap*5∧N=⟨id+1,[(id,.cells cells)]⟩∧f=⟨catFC rows b i (.osl id 0 (flatRC (rows.take i)).length cap 5),[]⟩) (Nat.zero_le _) ⟨cap,l',0,Nat.zero_le 1,Nat.zero_le _,rfl,g2,rfl,rfl⟩ (Joint.le ?_ (Mem.le_refl _)) ?_
   ·unfold catFC
    repeat (refine AF.le_cons rfl ?_)
    exact AF.le_nil rfl
   ·rintro i f N hi ⟨cap,cells,id,hid,hcap,hce,hcl,rfl,rfl⟩
    have hle0:=flatRCL_le rows i
    unfold catFC
    by_cases hi1:i < rows.length
    ·have d1:decide ((i:Int) < (rows.length:Int))=true:=by simp;omega
     have hx:rows[i]? =some rows[i]:=List.getElem?_eq_getElem hi1
     have fi:=wrap_succ (i:=i) (by omega)
     have hs:=flatRC_succ hx
     have hle:=flatRCL_le rows (i+1)
     generalize rows[i]=r at hx hs
     rw[hs,List.length_append] at hle
     generalize flatRC (rows.take i)=A at hs hle hle0 hce hcap
     have hl:(A++r.1).length=A.length+(r.1.map Ch.av).length:=by simp
     have hid2:id=0∨id=1:=by omega
     rcases hid2 with rfl|rfl
     ·repeat' (first|refine DW_VB tabs rfl d1 ?_|refine DW_VI tabs rfl (by first|exact fi|exact la) ?_|refine DW_A tabs rfl ?_|refine DW_nil ?_|refine W_A rfl ?_|refine DW_app tabOK rfl rfl (by simp;omega) (by simp;omega) ?_|refine DW_app0 tabOK rfl (by simp;omega) (by simp;omega) ?_)
      refine DW_ix tabOK rfl (ixN hx) ?_
      repeat' (first|refine DW_VI tabs rfl (by first|exact fi|exact la) ?_|refine DW_A tabs rfl ?_|refine DW_nil ?_|refine W_A rfl ?_|refine DW_app tabOK rfl rfl (by simp;omega) (by simp;omega) ?_|refine DW_app0 tabOK rfl (by simp;omega) (by simp;omega) ?_)
      refine DW_oapp tabOK rfl rfl rfl rfl rfl (l:=cells) rfl rfl rfl rfl rfl rfl rfl rfl rfl rfl (by omega) (by omega) (by simp;omega) (by simp;omega) ?_
      intro cap' l' g1 g2 g3
      repeat' (first|refine DW_VI tabs rfl (by first|exact la|exact fi) ?_|refine DW_A tabs rfl ?_|refine DW_nil ?_|refine W_A rfl ?_|refine DW_app tabOK rfl rfl (by simp;omega) (by simp;omega) ?_|refine DW_app0 tabOK rfl (by simp;omega) (by simp;omega) ?_)
      obtain⟨k1,k2,k3⟩:=catC_next hce g1 g2 g3
      have hg:=rowG_all (k:=1) (id:=1) k1 k2 k3 (flC_closed _)
      refine⟨hi1,_,_,⟨cap',rowG (flC (A++r.1)) (cap'*5),1,Nat.le_refl 1,?_,?_,?_,rfl,rfl⟩,Joint.move (k:=1) (id:=1) (Nat.le_refl 1) (Nat.le_refl 1) rfl hg.1 hg.2 trivial ?_ trivial⟩
      ·rw[hs];rw[flC_len] at k3;omega
      ·rw[hs];have:=rowG_take (flC (A++r.1)) (cap'*5);rw[flC_len] at this;exact this
      ·exact rowG_len k3
      ·rw[hs,hl]
       exact catC_K SubK.osl rfl rfl rfl
     ·repeat' (first|refine DW_VB tabs rfl d1 ?_|refine DW_VI tabs rfl (by first|exact fi|exact la) ?_|refine DW_A tabs rfl ?_|refine DW_nil ?_|refine W_A rfl ?_|refine DW_app tabOK rfl rfl (by simp;omega) (by simp;omega) ?_|refine DW_app0 tabOK rfl (by simp;omega) (by simp;omega) ?_)
      refine DW_ix tabOK rfl (ixN hx) ?_
      repeat' (first|refine DW_VI tabs rfl (by first|exact fi|exact la) ?_|refine DW_A tabs rfl ?_|refine DW_nil ?_|refine W_A rfl ?_|refine DW_app tabOK rfl rfl (by simp;omega) (by simp;omega) ?_|refine DW_app0 tabOK rfl (by simp;omega) (by simp;omega) ?_)
      refine DW_oapp tabOK rfl rfl rfl rfl rfl (l:=cells) rfl rfl rfl rfl rfl rfl rfl rfl rfl rfl (by omega) (by omega) (by simp;omega) (by simp;omega) ?_
      intro cap' l' g1 g2 g3
      repeat' (first|refine DW_VI tabs rfl (by first|exact la|exact fi) ?_|refine DW_A tabs rfl ?_|refine DW_nil ?_|refine W_A rfl ?_|refine DW_app tabOK rfl rfl (by simp;omega) (by simp;omega) ?_|refine DW_app0 tabOK rfl (by simp;omega) (by simp;omega) ?_)
      obtain⟨k1,k2,k3⟩:=catC_next hce g1 g2 g3
      have hg:=rowG_all (k:=1) (id:=2) k1 k2 k3 (flC_closed _)
      refine⟨hi1,_,_,⟨cap',rowG (flC (A++r.1)) (cap'*5),1,Nat.le_refl 1,?_,?_,?_,rfl,rfl⟩,Joint.move (k:=1) (id:=2) (Nat.le_refl 1) (by omega) rfl hg.1 hg.2 trivial ?_ trivial⟩
      ·rw[hs];rw[flC_len] at k3;omega
      ·rw[hs];have:=rowG_take (flC (A++r.1)) (cap'*5);rw[flC_len] at this;exact this
      ·exact rowG_len k3
      ·rw[hs,hl]
       exact catC_K SubK.osl rfl rfl rfl
    ·have d1:decide ((i:Int) < (rows.length:Int))=false:=by simp;omega
     obtain rfl:i=rows.length:=by omega
     rw[List.take_length] at hce hcap
     rw[List.take_length]
     have hid2:id=0∨id=1:=by omega
     rcases hid2 with rfl|rfl
     ·refine W_ghost (Joint.freezeS 6 (xs:=(flatRC rows).map Ch.av) rfl rfl hce (by simp) (by omega) hcap (chs_five _)) ?_
      repeat' (first|refine DW_VB tabs rfl d1 ?_|refine DW_A tabs rfl ?_|refine DW_nil ?_|refine W_A rfl ?_|refine DW_app tabOK rfl rfl (by simp;omega) (by simp;omega) ?_|refine DW_app0 tabOK rfl (by simp;omega) (by simp;omega) ?_)
      exact⟨rfl,_,rfl,_,rfl,SubC.of_closed (closed_chs _ (.inl rfl))⟩
     ·refine W_ghost (Joint.freezeS 6 (xs:=(flatRC rows).map Ch.av) rfl rfl hce (by simp) (by omega) hcap (chs_five _)) ?_
      repeat' (first|refine DW_VB tabs rfl d1 ?_|refine DW_A tabs rfl ?_|refine DW_nil ?_|refine W_A rfl ?_|refine DW_app tabOK rfl rfl (by simp;omega) (by simp;omega) ?_|refine DW_app0 tabOK rfl (by simp;omega) (by simp;omega) ?_)
      exact⟨rfl,_,rfl,_,rfl,SubC.of_closed (closed_chs _ (.inl rfl))⟩
end Go.Proofs.YtbcaejhhgkcgpaaGreatDoor
