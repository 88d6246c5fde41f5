/- A tree of a state's pairs; without one of its texts, or with one twice, it is no state's. No further condition. -/
import Derived.Test.YtmgkebghojhocaaGreatDoorQDmpK
set_option linter.unusedVariables false
set_option linter.unusedSimpArgs false
namespace Go.Proofs.YtmgkebghojhocaaGreatDoor
open Go.Ab
set_option maxRecDepth 100000 in
set_option maxHeartbeats 8000000 in
theorem dumpTree_ok (s : Sg) (h1 : s.pairs.length < 4611686018427387904) : APure Tryz.prog 8 [s.av] (.bool true) := by
 refine pure_sub (closed1 (closed_sg s)) (closed_bool) ?_
 refine acalls_of tabOK Tryz.func8 rfl (by decide) (by simp [Tryz.f8]) ?_
 have kb := sgBig_ok s h1
 cases h : bigSg s
 ·rw [h] at kb
  have hT := bigSg_no h
  have hs := hT.small
  have hp := hT.pairs
  obtain ⟨hall, hlen⟩ := laid_all (l := s.pairs) (by omega)
  have hmem : ∀ p, p ∈ (laidT s.pairs).all → p ∈ s.pairs := fun p hq => by rw [hall] at hq; exact laid_mem hq
  have hn : (laidT s.pairs).all.length ≤ 80 := by rw [hall]; omega
  have hv : valsB (laidT s.pairs).all := fun p hq => hs.vals p (hmem p hq)
  have hr := (laidT s.pairs).rise
  change Rise (laidT s.pairs).all at hr
  have kt := dTree_ok s (by omega)
  have kw := dWith_ok s (laidT s.pairs) (by omega)
  have i1 := dIs_ok s hs
  have k1 := isStore_ok (laidT s.pairs) (by omega) hv
  have k2 := last_ok (laidT s.pairs) (by omega) hv
  have kl := len_ok (laidT s.pairs)
  have ka := tAll_ok (laidT s.pairs) (by omega)
  have r1 := isRise_ok s.pairs .none (by omega)
  have r2 := isRise_ok (laidT s.pairs).all .none (by omega)
  rw [decide_eq_true hr] at r2
  have sm := sgSame_ok (withT s (laidT s.pairs)) s ⟨by show (laidT s.pairs).all.length < _; omega, hs.len.pins, hs.len.seen⟩ hs.len
  have e : decide (withT s (laidT s.pairs) = s) = decide (Rise s.pairs) := by
   rw [decide_eq_decide]
   constructor
   ·intro e
    have := congrArg Sg.pairs e
    change (laidT s.pairs).all = s.pairs at this
    rw [← this]
    exact hr
   ·intro h
    have := laidT_rise h (by omega)
    obtain ⟨a, b, c, d, e⟩ := s
    unfold withT
    simp only at this ⊢
    rw [this]
  rw [e] at sm
  have hst : stateB s = true → isSt (laidT s.pairs).all = true ∧ lastL (laidT s.pairs).all ≤ s.last := fun hb => by
   have hS := stateB_iff.1 hb
   rw [laidT_rise hS.rise (by omega)]
   exact ⟨hS.st, hS.top⟩
  have kd := dumped_ok
  have d1 : decide (((laidT s.pairs).all.length : Int) ≤ (s.pairs.length : Int)) = true := decide_eq_true (by rw [hall]; omega)
  have la := len_map Pr.av s.pairs
  unfold withT at kw sm
  clear hall hlen hmem e
  generalize laidT s.pairs = T at *
  have c2 : ∀ b : Bool, (b == b) = true := by simp
  have c3 := c2 (decide (Rise s.pairs))
  generalize decide (Rise s.pairs) = w at *
  generalize T.all.length = n at *
  generalize lastL T.all = m at *
  generalize isSt T.all = z at *
  have hcT := T.all
  generalize T.all = A at *
  unfold Sg.av Sg.cells at *
  unfold Tr.av at *
  cases hb : stateB s
  ·rw [hb] at i1
   repeat' (first | refine DW_VB tabs rfl (by first | exact d1 | exact c3) ?_ | refine DW_VI tabs rfl la ?_ | refine DW_box 4 tabOK rfl ?_ | refine DW_olenA tabOK rfl ?_ | refine DW_A tabs rfl ?_ | refine DW_nil ?_ | refine W_A rfl ?_ | refine DW_C rfl kb ?_ | refine DW_C rfl kt ?_ | refine DW_C rfl kw ?_ | refine DW_C rfl i1 ?_ | refine DW_C rfl k1 ?_ | refine DW_C rfl k2 ?_ | refine DW_C rfl kl ?_ | refine DW_C rfl ka ?_ | refine DW_C rfl r1 ?_ | refine DW_C rfl r2 ?_ | refine DW_C rfl sm ?_ | refine DW_C rfl kd ?_ | refine W_draw mixed [0, 1, 2, 3, 4, 5, 6, 7, 8, 9, 10, 11, 12, 13] [.R, .P, .P, .P, .P, .P, .P, .P, .P, .R, .R, .P, .P, .P] rfl rfl (by kernel_rfl) ?_ | refine W_draw mixed [0, 1, 2, 3, 4, 5, 6, 7, 8, 9, 10, 11, 12, 13, 14, 15, 16, 17, 18, 19, 20, 21] [.P, .P, .P, .R, .R, .P, .P, .P, .P, .P, .P, .R, .R, .P, .P, .P, .P, .P, .P, .P, .P, .P] rfl rfl (by kernel_rfl) ?_)
   exact ⟨rfl, _, rfl, _, rfl, SubC.of_closed closed_bool⟩
  ·rw [hb] at i1
   obtain ⟨e1, e2⟩ := hst hb
   subst e1
   have d2 : decide (s.last < m) = false := decide_eq_false (by omega)
   repeat' (first | refine DW_VB tabs rfl (by first | exact d1 | exact d2 | exact c3) ?_ | refine DW_VI tabs rfl la ?_ | refine DW_box 4 tabOK rfl ?_ | refine DW_olenA tabOK rfl ?_ | refine DW_A tabs rfl ?_ | refine DW_nil ?_ | refine W_A rfl ?_ | refine DW_C rfl kb ?_ | refine DW_C rfl kt ?_ | refine DW_C rfl kw ?_ | refine DW_C rfl i1 ?_ | refine DW_C rfl k1 ?_ | refine DW_C rfl k2 ?_ | refine DW_C rfl kl ?_ | refine DW_C rfl ka ?_ | refine DW_C rfl r1 ?_ | refine DW_C rfl r2 ?_ | refine DW_C rfl sm ?_ | refine DW_C rfl kd ?_ | refine W_draw mixed [0, 1, 2, 3, 4, 5, 6, 7, 8, 9, 10, 11, 12, 13] [.R, .P, .P, .P, .P, .P, .P, .P, .P, .R, .R, .P, .P, .P] rfl rfl (by kernel_rfl) ?_ | refine W_draw mixed [0, 1, 2, 3, 4, 5, 6, 7, 8, 9, 10, 11, 12, 13, 14, 15, 16, 17, 18, 19, 20, 21] [.P, .P, .P, .R, .R, .P, .P, .P, .P, .P, .P, .R, .R, .P, .P, .P, .P, .P, .P, .P, .P, .P] rfl rfl (by kernel_rfl) ?_)
   exact ⟨rfl, _, rfl, _, rfl, SubC.of_closed closed_bool⟩
 ·rw [h] at kb
  unfold Sg.av Sg.cells at *
  repeat' (first | refine DW_box 4 tabOK rfl ?_ | refine DW_olenA tabOK rfl ?_ | refine DW_A tabs rfl ?_ | refine DW_nil ?_ | refine W_A rfl ?_ | refine DW_C rfl kb ?_ | refine W_draw mixed [0, 1, 2, 3, 4, 5, 6, 7, 8, 9, 10, 11, 12, 13] [.R, .P, .P, .P, .P, .P, .P, .P, .P, .R, .R, .P, .P, .P] rfl rfl (by kernel_rfl) ?_ | refine W_draw mixed [0, 1, 2, 3, 4, 5, 6, 7, 8, 9, 10, 11, 12, 13, 14, 15, 16, 17, 18, 19, 20, 21] [.P, .P, .P, .R, .R, .P, .P, .P, .P, .P, .P, .R, .R, .P, .P, .P, .P, .P, .P, .P, .P, .P] rfl rfl (by kernel_rfl) ?_)
  exact ⟨rfl, _, rfl, _, rfl, SubC.of_closed closed_bool⟩
set_option maxRecDepth 100000 in
set_option maxHeartbeats 8000000 in
theorem dumpLess_ok (s : Sg) (i : Int) (h1 : s.pairs.length < 4611686018427387904) : APure Tryz.prog 6 [s.av, .int .i64 i] (.bool true) := by
 refine pure_sub (closed2 (closed_sg s) closed_int) (closed_bool) ?_
 refine acalls_of tabOK Tryz.func6 rfl (by decide) (by simp [Tryz.f6]) ?_
 have kb := sgBig_ok s h1
 have kd := dumped_ok
 cases h : bigSg s
 ·rw [h] at kb
  have hT := bigSg_no h
  have hs := hT.small
  have p1 := dPut_ok s hs
  unfold dumpO at p1
  cases hb : stateB s
  ·rw [hb, if_neg (by simp)] at p1
   unfold dmA txA at p1
   unfold Sg.av Sg.cells at *
   repeat' (first | refine DW_box 9 tabOK rfl ?_ | refine DW_box 11 tabOK rfl ?_ | refine DW_orow 9 tabOK rfl ?_ | refine DW_orow 11 tabOK rfl ?_ | refine DW_oix tabOK rfl ?_ | refine DW_olenA tabOK rfl ?_ | refine DW_A tabs rfl ?_ | refine DW_nil ?_ | refine W_A rfl ?_ | refine DW_C rfl kb ?_ | refine DW_C rfl p1 ?_ | refine DW_C rfl kd ?_ | refine DW_row tabOK rfl ?_ | refine DW_app tabOK rfl rfl (by simp; omega) (by simp; omega) ?_ | refine DW_app0 tabOK rfl (by simp; omega) (by simp; omega) ?_)
   exact ⟨rfl, _, rfl, _, rfl, SubC.of_closed closed_bool⟩
  ·rw [hb, if_pos rfl] at p1
   have hS := stateB_iff.1 hb
   obtain ⟨q1, q2⟩ := texts_small hT hS
   have hl := @less_none s hS
   have hm := more_none hS
   generalize texts s = X at *
   have lx := len_map AV.str X
   unfold dmA at p1
   by_cases a1 : i < 0
   ·have d1 : decide (i < 0) = true := decide_eq_true a1
    unfold txA at p1
    unfold Sg.av Sg.cells at *
    repeat' (first | refine DW_VB tabs rfl d1 ?_ | refine DW_box 9 tabOK rfl ?_ | refine DW_box 11 tabOK rfl ?_ | refine DW_orow 9 tabOK rfl ?_ | refine DW_orow 11 tabOK rfl ?_ | refine DW_oix tabOK rfl ?_ | refine DW_olenA tabOK rfl ?_ | refine DW_A tabs rfl ?_ | refine DW_nil ?_ | refine W_A rfl ?_ | refine DW_C rfl kb ?_ | refine DW_C rfl p1 ?_ | refine DW_C rfl kd ?_ | refine DW_row tabOK rfl ?_ | refine DW_app tabOK rfl rfl (by simp; omega) (by simp; omega) ?_ | refine DW_app0 tabOK rfl (by simp; omega) (by simp; omega) ?_)
    exact ⟨rfl, _, rfl, _, rfl, SubC.of_closed closed_bool⟩
   ·have d1 : decide (i < 0) = false := decide_eq_false a1
    by_cases a2 : (X.length : Int) ≤ i
    ·have d2 : decide ((X.length : Int) ≤ i) = true := decide_eq_true a2
     unfold txA at p1
     unfold Sg.av Sg.cells at *
     repeat' (first | refine DW_VB tabs rfl (by first | exact d1 | exact d2) ?_ | refine DW_VI tabs rfl lx ?_ | refine DW_box 9 tabOK rfl ?_ | refine DW_box 11 tabOK rfl ?_ | refine DW_orow 9 tabOK rfl ?_ | refine DW_orow 11 tabOK rfl ?_ | refine DW_oix tabOK rfl ?_ | refine DW_olenA tabOK rfl ?_ | refine DW_A tabs rfl ?_ | refine DW_nil ?_ | refine W_A rfl ?_ | refine DW_C rfl kb ?_ | refine DW_C rfl p1 ?_ | refine DW_C rfl kd ?_ | refine DW_row tabOK rfl ?_ | refine DW_app tabOK rfl rfl (by simp; omega) (by simp; omega) ?_ | refine DW_app0 tabOK rfl (by simp; omega) (by simp; omega) ?_)
     exact ⟨rfl, _, rfl, _, rfl, SubC.of_closed closed_bool⟩
    ·have d2 : decide ((X.length : Int) ≤ i) = false := decide_eq_false a2
     obtain ⟨k, rfl⟩ : ∃ k : Nat, i = (k : Int) := ⟨i.toNat, by omega⟩
     have hk : k < X.length := by omega
     have fi := wrap_succ (i := k) (by omega)
     have hx : X[k]? = some X[k] := List.getElem?_eq_getElem hk
     generalize X[k] = x at hx
     have g1 := dGet_ok (X.take k ++ X.drop (k + 1)) (by simp; omega) (fun t ht => by
      rcases List.mem_append.1 ht with ht | ht
      ·exact q2 t (List.mem_of_mem_take ht)
      ·exact q2 t (List.mem_of_mem_drop ht))
     have g2 := dGet_ok (X ++ [x]) (by simp; omega) (fun t ht => by
      rcases List.mem_append.1 ht with ht | ht
      ·exact q2 t ht
      ·simp at ht
       rw [ht]
       exact q2 x (List.mem_of_getElem? hx))
     rw [hl hk] at g1
     rw [hm x] at g2
     have s1 : (0 : Int) ≤ 0 ∧ (0 : Int) ≤ (k : Int) ∧ (k : Int) ≤ ((X.map AV.str).length : Int) ∧ ((X.map AV.str).take (k : Int).toNat).drop (0 : Int).toNat = (X.take k).map AV.str := ⟨by omega, by omega, by omega, by simp⟩
     have s2 : (0 : Int) ≤ ((k + 1 : Nat) : Int) ∧ ((k + 1 : Nat) : Int) ≤ ((X.map AV.str).length : Int) ∧ ((X.map AV.str).length : Int) ≤ ((X.map AV.str).length : Int) ∧ ((X.map AV.str).take ((X.map AV.str).length : Int).toNat).drop ((k + 1 : Nat) : Int).toNat = (X.drop (k + 1)).map AV.str := ⟨by omega, by omega, by omega, by rw [Int.toNat_natCast, Int.toNat_natCast, List.take_length, List.map_drop]⟩
     have l1 := len_map AV.str (X.take k)
     have l2 := len_map AV.str (X.drop (k + 1))
     have n1 : (X.take k).length ≤ 1000 := by rw [List.length_take]; omega
     have n2 : (X.drop (k + 1)).length ≤ 1000 := by rw [List.length_drop]; omega
     have e1 : txA (X.take k ++ X.drop (k + 1)) .none = .sl 1 ((X.take k).map AV.str ++ (X.drop (k + 1)).map AV.str) .none := by simp [txA]
     have e2 : txA (X ++ [x]) .none = .sl 1 (X.map AV.str ++ [.str x]) .none := by simp [txA]
     have g1 := g1.sub (args := [.sl 1 ((X.take k).map AV.str ++ (X.drop (k + 1)).map AV.str) (.tok 0 1)]) ⟨by rw [e1]; exact Sub.untag, trivial⟩
     have g2 := g2.sub (args := [.sl 1 (X.map AV.str ++ [.str x]) (.tok 1 1)]) ⟨by rw [e2]; exact Sub.untag, trivial⟩
     unfold gsA at g1 g2
     generalize zeroSg = z at *
     have kw := fun M => ownT_ok X (by omega) M
     unfold txA at p1 kw
     unfold Sg.av Sg.cells at *
     repeat' (first | refine DW_VB tabs rfl (by first | exact d1 | exact d2) ?_ | refine DW_VI tabs rfl (by first | exact lx | exact fi | exact l1 | exact l2) ?_ | refine DW_box 9 tabOK rfl ?_ | refine DW_box 11 tabOK rfl ?_ | refine DW_orow 9 tabOK rfl ?_ | refine DW_orow 11 tabOK rfl ?_ | refine DW_oix tabOK rfl ?_ | refine DW_olenA tabOK rfl ?_ | refine DW_A tabs rfl ?_ | refine DW_nil ?_ | refine W_A rfl ?_ | refine DW_C rfl kb ?_ | refine DW_C rfl p1 ?_ | refine DW_CM rfl rfl (kw _) ?_ ?_ | refine DW_slc tabOK rfl (s1) ?_ | refine DW_slc tabOK rfl (s2) ?_ | refine DW_row tabOK rfl ?_ | refine DW_app tabOK rfl rfl (by simp; omega) (by simp; omega) ?_ | refine DW_app0 tabOK rfl (by simp; omega) (by simp; omega) ?_)
     rotate_left
     ·intro u M' h
      cases h.1
     rintro u M' ⟨e, rfl⟩
     cases e
     repeat' (first | refine DW_VB tabs rfl (by first | exact d1 | exact d2) ?_ | refine DW_VI tabs rfl (by first | exact lx | exact fi) ?_ | refine DW_box 9 tabOK rfl ?_ | refine DW_box 11 tabOK rfl ?_ | refine DW_orow 9 tabOK rfl ?_ | refine DW_orow 11 tabOK rfl ?_ | refine DW_oix tabOK rfl ?_ | refine DW_olenA tabOK rfl ?_ | refine DW_A tabs rfl ?_ | refine DW_nil ?_ | refine W_A rfl ?_ | refine DW_C rfl g1 ?_ | refine DW_C rfl g2 ?_ | refine DW_C rfl kd ?_ | refine DW_ix tabOK rfl (ixN hx) ?_ | refine DW_row tabOK rfl ?_ | refine DW_app tabOK rfl rfl (by simp; omega) (by simp; omega) ?_ | refine DW_app0 tabOK rfl (by simp; omega) (by simp; omega) ?_)
     exact ⟨rfl, _, rfl, _, rfl, SubC.of_closed closed_bool⟩
 ·rw [h] at kb
  unfold Sg.av Sg.cells at *
  repeat' (first | refine DW_box 9 tabOK rfl ?_ | refine DW_box 11 tabOK rfl ?_ | refine DW_orow 9 tabOK rfl ?_ | refine DW_orow 11 tabOK rfl ?_ | refine DW_oix tabOK rfl ?_ | refine DW_olenA tabOK rfl ?_ | refine DW_A tabs rfl ?_ | refine DW_nil ?_ | refine W_A rfl ?_ | refine DW_C rfl kb ?_ | refine DW_row tabOK rfl ?_ | refine DW_app tabOK rfl rfl (by simp; omega) (by simp; omega) ?_ | refine DW_app0 tabOK rfl (by simp; omega) (by simp; omega) ?_)
  exact ⟨rfl, _, rfl, _, rfl, SubC.of_closed closed_bool⟩
end Go.Proofs.YtmgkebghojhocaaGreatDoor
