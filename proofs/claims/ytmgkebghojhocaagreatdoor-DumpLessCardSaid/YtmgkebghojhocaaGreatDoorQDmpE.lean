/- States' texts: Put by the document; the same texts. No further condition. -/
import Derived.Test.YtmgkebghojhocaaGreatDoorQDmpD
set_option linter.unusedVariables false
set_option linter.unusedSimpArgs false
namespace Go.Proofs.YtmgkebghojhocaaGreatDoor
open Go.Ab
def rp1 (s : Sg) (i g : Nat) : AF := ⟨[(1, .ref s.cells), (4, txA (ac1 s i) (.tok 0 g)), (5, .int .i64 (i : Int))], []⟩
def rp2 (s : Sg) (i g : Nat) : AF := ⟨[(1, .ref s.cells), (4, txA (ac2 s i) (.tok 0 g)), (10, .int .i64 (i : Int))], []⟩
def rp3 (s : Sg) (i g : Nat) : AF := ⟨[(1, .ref s.cells), (4, txA (ac3 s i) (.tok 0 g)), (11, .int .i64 (i : Int))], []⟩
theorem tx_more (l : List Bytes) (x : Bytes) {g : Nat} {m : List Bytes} (h : m = l ++ [x]) : AV.sl 1 (l.map AV.str ++ [.str x]) (.tok 0 (g + 1)) = .sl 1 (m.map AV.str) (.tok 0 (g + 1)) := by
 rw [h]
 simp
set_option maxRecDepth 100000 in
set_option maxHeartbeats 8000000 in
theorem rdPut_ok (s : Sg) (hs : SmallSg s) : APure Tryz.prog 16 [s.av] (dmA (dumpO s)) := by
 refine pure_sub (closed1 (closed_sg s)) (closed_dmA _) ?_
 refine acalls_of tabOK Tryz.func16 rfl (by decide) (by simp [Tryz.f16]) ?_
 have ki := rdIs_ok s hs
 have hn := hs.pairs
 have hn2 := hs.pins
 have hn3 := hs.seen
 unfold dumpO
 cases h : stateB s
 ·rw [h] at ki
  rw [if_neg (by simp)]
  unfold Sg.av Sg.cells at *
  repeat' (first | refine DW_box 12 tabOK rfl ?_ | refine DW_orow 12 tabOK rfl ?_ | refine DW_oix tabOK rfl ?_ | refine DW_olenA tabOK rfl ?_ | refine DW_A tabs rfl ?_ | refine DW_nil ?_ | refine W_A rfl ?_ | refine DW_C rfl ki ?_ | refine DW_row tabOK rfl ?_ | refine DW_app tabOK rfl rfl (by simp; omega) (by simp; omega) ?_ | refine DW_app0 tabOK rfl (by simp; omega) (by simp; omega) ?_ | refine W_draw mixed [0, 3, 9, 1, 2, 4, 5, 6, 7, 8, 10, 11, 12, 13, 14, 15, 16, 17] [.P, .R, .R, .P, .R, .R, .R, .R, .R, .P, .R, .R, .R, .P, .P, .P, .E, .P] rfl rfl (by kernel_rfl) ?_)
  exact ⟨rfl, _, rfl, _, rfl, SubC.tup2 SubC.nil (SubC.of_closed closed_int)⟩
 ·rw [h] at ki
  rw [if_pos rfl]
  have hS := stateB_iff.1 h
  have kh := rnumbers_ok [s.last, s.mark, (s.pairs.length : Int), (s.pins.length : Int), (s.seen.length : Int)] .full (okNs_head hS) (by simp)
  have la := len_map Pr.av s.pairs
  have lb := len_map Pn.av s.pins
  have lc := len_map Sn.av s.seen
  have hcr := @closed_refs s
  unfold iA at kh
  unfold Sg.av Sg.cells pinsA seenA at *
  repeat' (first | refine DW_VI tabs rfl (by first | exact la | exact lb | exact lc) ?_ | refine DW_box 12 tabOK rfl ?_ | refine DW_orow 12 tabOK rfl ?_ | refine DW_oix tabOK rfl ?_ | refine DW_olenA tabOK rfl ?_ | refine DW_A tabs rfl ?_ | refine DW_nil ?_ | refine W_A rfl ?_ | refine DW_C rfl ki ?_ | refine DW_C rfl kh ?_ | refine DW_row tabOK rfl ?_ | refine DW_app tabOK rfl rfl (by simp; omega) (by simp; omega) ?_ | refine DW_app0 tabOK rfl (by simp; omega) (by simp; omega) ?_ | refine W_draw mixed [0, 3, 9, 1, 2, 4, 5, 6, 7, 8, 10, 11, 12, 13, 14, 15, 16, 17] [.P, .R, .R, .P, .R, .R, .R, .R, .R, .P, .R, .R, .R, .P, .P, .P, .E, .P] rfl rfl (by kernel_rfl) ?_)
  refine W_count s.pairs.length (fun i f N => ∃ g, N = tokM g ∧ f = rp1 s i g) (Nat.zero_le _) ⟨0, rfl, rfl⟩ ((Joint.tok 4 rfl (sz' := 1) (.inl rfl)).trans (Joint.le ?_ (tokM_of rfl rfl))) ?_
  ·unfold rp1 ac1 headT txA Sg.cells pinsA seenA
   repeat (refine AF.le_cons rfl ?_)
   exact AF.le_nil rfl
  rintro i f N hi ⟨g, rfl, rfl⟩
  unfold rp1 txA Sg.cells pinsA seenA
  have lo := len_map AV.str (ac1 s i)
  have lo2 := ac1_len s i
  by_cases h1 : i < s.pairs.length
  ·have d1 : decide ((i : Int) < (s.pairs.length : Int)) = true := decide_eq_true (by omega)
   have hx : s.pairs[i]? = some s.pairs[i] := List.getElem?_eq_getElem h1
   have fi := wrap_succ (i := i) (by omega)
   have ht := ac1_step (take_succ hx)
   have hm := List.getElem_mem h1
   generalize s.pairs[i] = x at hx ht hm
   have hk := okP_key (isSt_mem hS.st hm)
   have hv := hs.vals x hm
   have hkl := key_len hk
   have kp := rPut_ok x.key hv.1
   unfold putA at kp
   rw [show (putB x.key).2 = 0 by rw [putB_ok hk]] at kp
   have kt := rtext_ok (putB x.key).1 (by omega)
   rw [if_neg (by omega)] at kt
   have hcat := pairT_cat hk hv.2
   have hap := tx_more (ac1 s i) (pairT x) (g := g) ht
   unfold Ky.av at kp
   repeat' (first | refine DW_VB tabs rfl d1 ?_ | refine DW_VI tabs rfl (by first | exact la | exact fi | exact lo) ?_ | refine DW_box 12 tabOK rfl ?_ | refine DW_orow 12 tabOK rfl ?_ | refine DW_oix tabOK rfl ?_ | refine DW_olenA tabOK rfl ?_ | refine DW_A tabs rfl ?_ | refine DW_nil ?_ | refine W_A rfl ?_ | refine DW_C rfl kp ?_ | refine DW_C rfl kt ?_ | refine DW_ix tabOK rfl (ixN hx) ?_ | refine DW_cat rfl (hcat) ?_ | refine DW_row tabOK rfl ?_ | refine DW_app tabOK rfl rfl (by simp; omega) (by simp; omega) ?_ | refine DW_app0 tabOK rfl (by simp; omega) (by simp; omega) ?_ | refine W_draw mixed [0, 3, 9, 1, 2, 4, 5, 6, 7, 8, 10, 11, 12, 13, 14, 15, 16, 17] [.P, .R, .R, .P, .R, .R, .R, .R, .R, .P, .R, .R, .R, .P, .P, .P, .E, .P] rfl rfl (by kernel_rfl) ?_)
   refine ⟨h1, rp1 s (i + 1) (g + 1), tokM (g + 1), ⟨g + 1, rfl, rfl⟩, Joint.le ?_ (tokM_of rfl rfl)⟩
   unfold rp1 txA Sg.cells pinsA seenA
   rw [← hap]
   repeat (refine AF.le_cons rfl ?_)
   exact AF.le_nil rfl
  ·have d1 : decide ((i : Int) < (s.pairs.length : Int)) = false := decide_eq_false (by omega)
   obtain rfl : i = s.pairs.length := by omega
   rw [ac12]
   repeat' (first | refine DW_VB tabs rfl d1 ?_ | refine DW_VI tabs rfl (by first | exact la | exact lb) ?_ | refine DW_box 12 tabOK rfl ?_ | refine DW_orow 12 tabOK rfl ?_ | refine DW_oix tabOK rfl ?_ | refine DW_olenA tabOK rfl ?_ | refine DW_A tabs rfl ?_ | refine DW_nil ?_ | refine W_A rfl ?_ | refine DW_row tabOK rfl ?_ | refine DW_app tabOK rfl rfl (by simp; omega) (by simp; omega) ?_ | refine DW_app0 tabOK rfl (by simp; omega) (by simp; omega) ?_ | refine W_draw mixed [0, 3, 9, 1, 2, 4, 5, 6, 7, 8, 10, 11, 12, 13, 14, 15, 16, 17] [.P, .R, .R, .P, .R, .R, .R, .R, .R, .P, .R, .R, .R, .P, .P, .P, .E, .P] rfl rfl (by kernel_rfl) ?_)
   refine W_count s.pins.length (fun i f N => ∃ g, N = tokM g ∧ f = rp2 s i g) (Nat.zero_le _) ⟨g, rfl, rfl⟩ (Joint.le ?_ (tokM_of rfl rfl)) ?_
   ·unfold rp2 txA Sg.cells pinsA seenA
    repeat (refine AF.le_cons rfl ?_)
    exact AF.le_nil rfl
   rintro i f N hi ⟨g, rfl, rfl⟩
   unfold rp2 txA Sg.cells pinsA seenA
   have lo := len_map AV.str (ac2 s i)
   have lo2 := ac2_len s i
   by_cases h1 : i < s.pins.length
   ·have d1 : decide ((i : Int) < (s.pins.length : Int)) = true := decide_eq_true (by omega)
    have hx : s.pins[i]? = some s.pins[i] := List.getElem?_eq_getElem h1
    have fi := wrap_succ (i := i) (by omega)
    have ht := ac2_step (take_succ hx)
    have hm := List.getElem_mem h1
    generalize s.pins[i] = x at hx ht hm
    have kp := rnumbers_ok [x.session, x.at_] .full (okNs_pin (upB_mem hS.pins x hm)) (by simp)
    have hap := tx_more (ac2 s i) (pinT x) (g := g) ht
    unfold iA at kp
    repeat' (first | refine DW_VB tabs rfl d1 ?_ | refine DW_VI tabs rfl (by first | exact lb | exact fi | exact lo) ?_ | refine DW_box 12 tabOK rfl ?_ | refine DW_orow 12 tabOK rfl ?_ | refine DW_oix tabOK rfl ?_ | refine DW_olenA tabOK rfl ?_ | refine DW_A tabs rfl ?_ | refine DW_nil ?_ | refine W_A rfl ?_ | refine DW_C rfl kp ?_ | refine DW_ix tabOK rfl (ixN hx) ?_ | refine DW_row tabOK rfl ?_ | refine DW_app tabOK rfl rfl (by simp; omega) (by simp; omega) ?_ | refine DW_app0 tabOK rfl (by simp; omega) (by simp; omega) ?_ | refine W_draw mixed [0, 3, 9, 1, 2, 4, 5, 6, 7, 8, 10, 11, 12, 13, 14, 15, 16, 17] [.P, .R, .R, .P, .R, .R, .R, .R, .R, .P, .R, .R, .R, .P, .P, .P, .E, .P] rfl rfl (by kernel_rfl) ?_)
    refine ⟨h1, rp2 s (i + 1) (g + 1), tokM (g + 1), ⟨g + 1, rfl, rfl⟩, Joint.le ?_ (tokM_of rfl rfl)⟩
    unfold rp2 txA Sg.cells pinsA seenA
    rw [← hap]
    repeat (refine AF.le_cons rfl ?_)
    exact AF.le_nil rfl
   ·have d1 : decide ((i : Int) < (s.pins.length : Int)) = false := decide_eq_false (by omega)
    obtain rfl : i = s.pins.length := by omega
    rw [ac23]
    repeat' (first | refine DW_VB tabs rfl d1 ?_ | refine DW_VI tabs rfl (by first | exact lb | exact lc) ?_ | refine DW_box 12 tabOK rfl ?_ | refine DW_orow 12 tabOK rfl ?_ | refine DW_oix tabOK rfl ?_ | refine DW_olenA tabOK rfl ?_ | refine DW_A tabs rfl ?_ | refine DW_nil ?_ | refine W_A rfl ?_ | refine DW_row tabOK rfl ?_ | refine DW_app tabOK rfl rfl (by simp; omega) (by simp; omega) ?_ | refine DW_app0 tabOK rfl (by simp; omega) (by simp; omega) ?_ | refine W_draw mixed [0, 3, 9, 1, 2, 4, 5, 6, 7, 8, 10, 11, 12, 13, 14, 15, 16, 17] [.P, .R, .R, .P, .R, .R, .R, .R, .R, .P, .R, .R, .R, .P, .P, .P, .E, .P] rfl rfl (by kernel_rfl) ?_)
    refine W_count s.seen.length (fun i f N => ∃ g, N = tokM g ∧ f = rp3 s i g) (Nat.zero_le _) ⟨g, rfl, rfl⟩ (Joint.le ?_ (tokM_of rfl rfl)) ?_
    ·unfold rp3 txA Sg.cells pinsA seenA
     repeat (refine AF.le_cons rfl ?_)
     exact AF.le_nil rfl
    rintro i f N hi ⟨g, rfl, rfl⟩
    unfold rp3 txA Sg.cells pinsA seenA
    have lo := len_map AV.str (ac3 s i)
    have lo2 := ac3_len s i
    by_cases h1 : i < s.seen.length
    ·have d1 : decide ((i : Int) < (s.seen.length : Int)) = true := decide_eq_true (by omega)
     have hx : s.seen[i]? = some s.seen[i] := List.getElem?_eq_getElem h1
     have fi := wrap_succ (i := i) (by omega)
     have ht := ac3_step (take_succ hx)
     have hm := List.getElem_mem h1
     generalize s.seen[i] = x at hx ht hm
     have kp := rnumbers_ok [x.client, x.seq, x.code, x.n] .full (okNs_seen (upB_mem hS.seen x hm)) (by simp)
     unfold iA at kp
     repeat' (first | refine DW_VB tabs rfl d1 ?_ | refine DW_VI tabs rfl (by first | exact lc | exact fi | exact lo) ?_ | refine DW_box 12 tabOK rfl ?_ | refine DW_orow 12 tabOK rfl ?_ | refine DW_oix tabOK rfl ?_ | refine DW_olenA tabOK rfl ?_ | refine DW_A tabs rfl ?_ | refine DW_nil ?_ | refine W_A rfl ?_ | refine DW_C rfl kp ?_ | refine DW_ix tabOK rfl (ixN hx) ?_ | refine DW_row tabOK rfl ?_ | refine DW_app tabOK rfl rfl (by simp; omega) (by simp; omega) ?_ | refine DW_app0 tabOK rfl (by simp; omega) (by simp; omega) ?_ | refine W_draw mixed [0, 3, 9, 1, 2, 4, 5, 6, 7, 8, 10, 11, 12, 13, 14, 15, 16, 17] [.P, .R, .R, .P, .R, .R, .R, .R, .R, .P, .R, .R, .R, .P, .P, .P, .E, .P] rfl rfl (by kernel_rfl) ?_)
     refine ⟨h1, rp3 s (i + 1) (g + 1), tokM (g + 1), ⟨g + 1, rfl, rfl⟩, Joint.cut (k := 1) (t := (rp3 s (i + 1) (g + 1)).t) (l := (tokM (g + 1)).objs) (Nat.le_refl 1) (by show 1 ≤ 2; omega) rfl ⟨?_, ?_, ?_, trivial⟩ ⟨by decide, rfl, trivial⟩⟩
     ·exact hcr
     ·rw [ht]
      exact subc_tx (by decide) _ _ _
     ·exact SubC.of_closed closed_int
    ·have d1 : decide ((i : Int) < (s.seen.length : Int)) = false := decide_eq_false (by omega)
     obtain rfl : i = s.seen.length := by omega
     rw [ac3_end]
     have hc := closed_tx (texts s) (t := .none) (.inl rfl)
     unfold txA at hc
     repeat' (first | refine DW_VB tabs rfl d1 ?_ | refine DW_VI tabs rfl lc ?_ | refine DW_box 12 tabOK rfl ?_ | refine DW_orow 12 tabOK rfl ?_ | refine DW_oix tabOK rfl ?_ | refine DW_olenA tabOK rfl ?_ | refine DW_A tabs rfl ?_ | refine DW_nil ?_ | refine W_A rfl ?_ | refine DW_row tabOK rfl ?_ | refine DW_app tabOK rfl rfl (by simp; omega) (by simp; omega) ?_ | refine DW_app0 tabOK rfl (by simp; omega) (by simp; omega) ?_ | refine W_draw mixed [0, 3, 9, 1, 2, 4, 5, 6, 7, 8, 10, 11, 12, 13, 14, 15, 16, 17] [.P, .R, .R, .P, .R, .R, .R, .R, .R, .P, .R, .R, .R, .P, .P, .P, .E, .P] rfl rfl (by kernel_rfl) ?_)
     exact ⟨rfl, _, rfl, _, rfl, SubC.tup2 (SubC.untag hc) (SubC.of_closed closed_int)⟩
set_option maxRecDepth 100000 in
set_option maxHeartbeats 8000000 in
theorem rtexts_ok (a b : List Bytes) (ta tb : Tag) (ha : a.length < 1000000) (hb : b.length < 1000000) : APure Tryz.prog 20 [txA a ta, txA b tb] (.bool (decide (a = b))) := by
 intro M
 refine acalls_of tabOK Tryz.func20 rfl (by decide) (by simp [Tryz.f20]) ?_
 have la := len_map AV.str a
 have lb := len_map AV.str b
 unfold txA
 by_cases hl : a.length = b.length
 ·have d0 : (!decide ((a.length : Int) = (b.length : Int))) = false := by simp; omega
  repeat' (first | refine DW_VB tabs rfl d0 ?_ | refine DW_VI tabs rfl (by first | exact la | exact lb) ?_ | refine DW_A tabs rfl ?_ | refine DW_nil ?_ | refine W_A rfl ?_ | refine W_draw mixed [0, 1, 4, 5, 2, 3, 6, 7, 8] [.P, .P, .R, .R, .P, .P, .R, .R, .P] rfl rfl (by kernel_rfl) ?_)
  refine W_count a.length (fun i f N => N = M ∧ (a.take i = b.take i) ∧ f = ⟨[(0, .sl 1 (a.map AV.str) ta), (1, .sl 1 (b.map AV.str) tb), (5, .int .i64 (i : Int))], []⟩) (Nat.zero_le _) ⟨rfl, by simp, rfl⟩ (Joint.le ?_ (Mem.le_refl _)) ?_
  ·skip
   repeat (refine AF.le_cons rfl ?_)
   exact AF.le_nil rfl
  rintro i f N hi ⟨rfl, hinv, rfl⟩
  by_cases h1 : i < a.length
  ·have d1 : decide ((i : Int) < (a.length : Int)) = true := by simp; omega
   have hx : a[i]? = some a[i] := List.getElem?_eq_getElem h1
   have fi := wrap_succ (i := i) (by omega)
   have ht := take_succ hx
   have hm := List.getElem_mem h1
   generalize a[i] = x at hx ht hm
   have hy : b[i]? = some b[i] := List.getElem?_eq_getElem (by omega)
   have hu := take_succ hy
   generalize b[i] = y at hy hu
   by_cases h3 : x = y
   ·have d3 : (!(x == y)) = false := by simp [h3]
    repeat' (first | refine DW_VB tabs rfl (by first | exact d1 | exact d3) ?_ | refine DW_VI tabs rfl (by first | exact fi | exact la | exact lb) ?_ | refine DW_A tabs rfl ?_ | refine DW_nil ?_ | refine W_A rfl ?_ | refine DW_ix tabOK rfl (ixN hx) ?_ | refine DW_ix tabOK rfl (ixN hy) ?_ | refine W_draw mixed [0, 1, 4, 5, 2, 3, 6, 7, 8] [.P, .P, .R, .R, .P, .P, .R, .R, .P] rfl rfl (by kernel_rfl) ?_)
    refine ⟨h1, _, _, ⟨rfl, by rw [ht, hu, hinv, h3], rfl⟩, Joint.le ?_ (Mem.le_refl _)⟩
    repeat (refine AF.le_cons rfl ?_)
    exact AF.le_nil rfl
   ·have d3 : (!(x == y)) = true := by simp [h3]
    have e : decide (a = b) = false := by
     refine decide_eq_false fun e => h3 ?_
     subst e
     rw [hx] at hy
     cases hy
     rfl
    rw [e]
    repeat' (first | refine DW_VB tabs rfl (by first | exact d1 | exact d3) ?_ | refine DW_VI tabs rfl (by first | exact fi | exact la | exact lb) ?_ | refine DW_A tabs rfl ?_ | refine DW_nil ?_ | refine W_A rfl ?_ | refine DW_ix tabOK rfl (ixN hx) ?_ | refine DW_ix tabOK rfl (ixN hy) ?_ | refine W_draw mixed [0, 1, 4, 5, 2, 3, 6, 7, 8] [.P, .P, .R, .R, .P, .P, .R, .R, .P] rfl rfl (by kernel_rfl) ?_)
    exact ⟨rfl, _, rfl, rfl, rfl⟩
  ·have d1 : decide ((i : Int) < (a.length : Int)) = false := by simp; omega
   obtain rfl : i = a.length := by omega
   rw [take_all, hl, take_all] at hinv
   have e : decide (a = b) = true := by simp [hinv]
   rw [e]
   repeat' (first | refine DW_VB tabs rfl d1 ?_ | refine DW_VI tabs rfl la ?_ | refine DW_A tabs rfl ?_ | refine DW_nil ?_ | refine W_A rfl ?_ | refine W_draw mixed [0, 1, 4, 5, 2, 3, 6, 7, 8] [.P, .P, .R, .R, .P, .P, .R, .R, .P] rfl rfl (by kernel_rfl) ?_)
   exact ⟨rfl, _, rfl, rfl, rfl⟩
 ·have d0 : (!decide ((a.length : Int) = (b.length : Int))) = true := by simp; omega
  have e : decide (a = b) = false := decide_eq_false fun e => hl (by rw [e])
  rw [e]
  repeat' (first | refine DW_VB tabs rfl d0 ?_ | refine DW_VI tabs rfl (by first | exact la | exact lb) ?_ | refine DW_A tabs rfl ?_ | refine DW_nil ?_ | refine W_A rfl ?_ | refine W_draw mixed [0, 1, 4, 5, 2, 3, 6, 7, 8] [.P, .P, .R, .R, .P, .P, .R, .R, .P] rfl rfl (by kernel_rfl) ?_)
  exact ⟨rfl, _, rfl, rfl, rfl⟩
end Go.Proofs.YtmgkebghojhocaaGreatDoor
