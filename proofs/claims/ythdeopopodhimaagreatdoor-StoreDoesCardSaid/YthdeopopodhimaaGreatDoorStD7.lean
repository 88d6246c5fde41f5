/- The store is as the document says. No further condition. -/
import Derived.Test.YthdeopopodhimaaGreatDoorStD6
set_option linter.unusedVariables false
set_option linter.unusedSimpArgs false
namespace Go.Proofs.YthdeopopodhimaaGreatDoor
open Go.Ab

theorem rgetM_ch (s : Bytes) : (getM s).1.ch.length ≤ 16 := by
  unfold getM
  cases nums s with
  | none => exact Nat.zero_le _
  | some l =>
    match l with
    | [] => exact Nat.zero_le _
    | [_] => exact Nat.zero_le _
    | [_, _] => exact Nat.zero_le _
    | a :: b :: c :: m =>
      show (mtOf a b c m).1.ch.length ≤ 16
      unfold mtOf
      split
      · rename_i h
        have h2 := h.2
        unfold isM at h2
        simp at h2
        simp
        exact h2.2.2
      · exact Nat.zero_le _
theorem rreadM_ch (v : Bytes) : (readM v).1.ch.length ≤ 16 := by
  cases v with
  | nil => exact Nat.zero_le _
  | cons c r =>
    show (if c = 0 ∧ r = [] then (zeroMt, true, (0 : Int)) else if c = 1 then ((getM r).1, false, (getM r).2) else (zeroMt, false, 30)).1.ch.length ≤ 16
    split
    · exact Nat.zero_le _
    · split
      · exact rgetM_ch r
      · exact Nat.zero_le _
theorem small_of2 {c : List Ch} (h : bigL [⟨0, c⟩] = false) : (c.length ≤ 25 ∧ ∀ x, x ∈ c → x.path.length ≤ 200 ∧ x.meta_.ch.length ≤ 30) ∧ True :=
  ⟨(bigL_no h).2 ⟨0, c⟩ (by simp), trivial⟩
theorem rlist_short {l : List Pr} (hr : Rise l) (p : Bytes) (w : Int) : (listO l p w).1.length ≤ l.length ∧ ∀ e, e ∈ (listO l p w).1 → shortE e := by
  unfold listO
  split
  · rename_i h
    have ht := okT_st (openE_parts h).1
    refine ⟨Nat.le_trans (List.length_filterMap_le _ _) (rpathsU_len _ p l (Nat.le_refl _)), fun e he => ?_⟩
    obtain ⟨_, _, x, _, _, _, hm⟩ := at_is hr ht ((list_mem hr ht p w e).1 he).2
    unfold shortE
    rw [hm]
    have := rreadM_ch x.val
    omega
  · exact ⟨Nat.zero_le _, fun e he => by cases he⟩
theorem rasOf_short {l : List Pr} (hr : Rise l) (p : Bytes) (w : Int) : shortE ((asOf l p w).1.getD zeroEn) := by
  unfold asOf
  split
  · rename_i h
    have ht := okT_st (openE_parts h).1
    cases ha : atL l p w with
    | none => unfold shortE; decide
    | some e =>
      obtain ⟨_, _, x, _, _, _, hm⟩ := at_is hr ht ha
      show shortE e
      unfold shortE
      rw [hm]
      have := rreadM_ch x.val
      omega
  · exact (show zeroEn.meta_.ch.length < 1000000 by decide)
theorem rhist_len (l : List Pr) (p : Bytes) : (histO l p).1.length ≤ l.length := by
  unfold histO
  split
  · unfold histL
    exact Nat.le_trans (List.takeWhile_sublist _).length_le (by rw [fromP_cut, List.length_drop]; omega)
  · exact Nat.zero_le _
set_option maxRecDepth 100000 in
set_option maxHeartbeats 8000000 in
theorem storeDoes_ok (l : List Pr) (a : Int) (c : List Ch) (p : Bytes) (w : Int) (hl : l.length < 4611686018427387904) (hc : c.length < 4611686018427387904) : APure Tryz.prog 6 [prA l, .int .i64 a, chA c .none, .str p, .int .i64 w] (.bool true) := by
  refine pure_sub (closedL_cons (closed_prA l) (closedL_cons closed_int (closed3 (closed_chs c (.inl rfl)) closed_str closed_int))) (closed_bool) ?_
  refine acalls_of tabOK Tryz.func6 rfl (by decide) (by simp [Tryz.f6]) ?_
  have kb := big_ok l .none hl
  have kc := bigL_ok [⟨0, c⟩] .full (by simp) (by simp; exact hc)
  have ecl : ldA [⟨0, c⟩] .full = .sl 2 [.agg [.int .i64 0, chA c .none]] .full := rfl
  rw [ecl] at kc
  cases h : bigB l
  · rw [h] at kb
    cases h2 : bigL [⟨0, c⟩]
    · rw [h2] at kc
      by_cases h3 : 300 < p.length
      · have d1 : decide ((300 : Int) < (p.length : Int)) = true := decide_eq_true (by omega)
        unfold prA chA at *
        repeat' (first | refine DW_VB tabs rfl d1 ?_ | refine DW_A tabs rfl ?_ | refine DW_nil ?_ | refine W_A rfl ?_ | refine DW_C rfl kb ?_ | refine DW_C rfl kc ?_ | refine DW_row tabOK rfl ?_)
        exact ⟨rfl, _, rfl, _, rfl, SubC.of_closed closed_bool⟩
      · have d1 : decide ((300 : Int) < (p.length : Int)) = false := decide_eq_false (by omega)
        obtain ⟨hcs, _⟩ := small_of2 h2
        have hcl : c.length ≤ 25 := hcs.1
        have hcS : ∀ x, x ∈ c → shortCh x := fun x hx => by have := hcs.2 x hx; exact ⟨by omega, by omega⟩
        have hb := bigB_no h
        have ks := rmade_small h
        have kpl : ∀ q, q ∈ (laidT l).all → q.key.path.length < 99999 ∧ q.val.length < 1000000 := fun q hq => by
          rw [(laid_all (l := l) (by omega)).1] at hq
          have := hb.2 q (laid_mem hq)
          exact ⟨by omega, by omega⟩
        have km := smade_ok l .none (by omega)
        have kst := stored_ok
        generalize laidT l = T at *
        have hr := T.rise
        change Rise T.all at hr
        have hn := ks.1
        have ka := tAll_ok T (by omega)
        have sT := same_ok T.all T.all .none .none (by omega) (by omega)
        rw [decide_eq_true rfl] at sT
        have y1 := lay_ok T a c .none (.inl rfl) (by omega) ks.2 hcS
        have y2 := rLay_ok T.all a c .none (.inl rfl) (by omega) ks.2 (by omega) hcS
        have s1 := asOf_ok T (by omega) ks.2 p (by omega) w
        have s2 := rAsOf_ok T.all (by omega) ks.2 hr p (by omega) w
        have l1 := list_ok T (by omega) ks.2 p (by omega) w
        have l2 := rList_ok T.all (by omega) kpl hr p (by omega) w
        have g1 := history_ok T (by omega) ks.2 p (by omega)
        have g2 := rHist_ok T.all (by omega) ks.2 hr p (by omega)
        have i1 := isStore_ok T (by omega) ks.2
        have i2 := rStIs_ok T.all (by omega) ks.2
        have e1 := last_ok T (by omega) ks.2
        have e2 := rLast_ok T.all (by omega) ks.2
        have se := sameEn_ok _ _ (rasOf_short hr p w) (rasOf_short hr p w)
        rw [decide_eq_true rfl] at se
        have hls := rlist_short hr p w
        have sl := sameEs_ok (listO T.all p w).1 (listO T.all p w).1 .none .none (by omega) (by omega) hls.2 hls.2
        rw [decide_eq_true rfl] at sl
        have hhl := rhist_len T.all p
        have sh := same_ok (histO T.all p).1 (histO T.all p).1 .none .none (by omega) (by omega)
        rw [decide_eq_true rfl] at sh
        have uu := fun hy : layB T.all a c = true => tAll_ok (layT T a c) (by rw [layT_all (by omega)]; have := layL_len a c T.all; omega)
        have su := same_ok (layL T.all a c) (layL T.all a c) .none .none (by have := layL_len a c T.all; omega) (by have := layL_len a c T.all; omega)
        rw [decide_eq_true rfl] at su
        rw [layT_all (by omega)] at uu
        generalize asOf T.all p w = za at *
        generalize listO T.all p w = zl at *
        generalize histO T.all p = zh at *
        generalize isSt T.all = zi at *
        generalize lastL T.all = zn at *
        have c1 : decide (za.2 = za.2) = true := by simp
        have c2 : decide (zl.2 = zl.2) = true := by simp
        have c3 : decide (zh.2 = zh.2) = true := by simp
        have c4 : decide (zn = zn) = true := by simp
        have c5 : (zi == zi) = true := by simp
        have c6 : (za.1.isSome == za.1.isSome) = true := by simp
        unfold layA at y1
        unfold rlayA at y2
        unfold asA at s1 s2
        unfold lsA at l1 l2
        unfold hsA at g1 g2
        cases hy : layB T.all a c
        · rw [if_neg (by simp [hy])] at y1 y2
          unfold prA chA ensA at *
          unfold Tr.av at km ka y1 s1 l1 g1 i1 e1
          repeat' (first | refine DW_VB tabs rfl (by first | exact d1 | exact c1 | exact c2 | exact c3 | exact c4 | exact c5 | exact c6) ?_ | refine DW_A tabs rfl ?_ | refine DW_nil ?_ | refine W_A rfl ?_ | refine DW_C rfl kb ?_ | refine DW_C rfl kc ?_ | refine DW_C rfl km ?_ | refine DW_C rfl ka ?_ | refine DW_C rfl y1 ?_ | refine DW_C rfl y2 ?_ | refine DW_C rfl s1 ?_ | refine DW_C rfl s2 ?_ | refine DW_C rfl l1 ?_ | refine DW_C rfl l2 ?_ | refine DW_C rfl g1 ?_ | refine DW_C rfl g2 ?_ | refine DW_C rfl i1 ?_ | refine DW_C rfl i2 ?_ | refine DW_C rfl e1 ?_ | refine DW_C rfl e2 ?_ | refine DW_C rfl se ?_ | refine DW_C rfl sl ?_ | refine DW_C rfl sh ?_ | refine DW_C rfl sT ?_ | refine DW_C rfl kst ?_ | refine DW_row tabOK rfl ?_)
          exact ⟨rfl, _, rfl, _, rfl, SubC.of_closed closed_bool⟩
        · rw [if_pos hy] at y1 y2
          have ku := uu hy
          generalize layL T.all a c = R at *
          generalize layT T a c = U at *
          unfold prA chA ensA at *
          unfold Tr.av at km ka y1 s1 l1 g1 i1 e1 ku
          repeat' (first | refine DW_VB tabs rfl (by first | exact d1 | exact c1 | exact c2 | exact c3 | exact c4 | exact c5 | exact c6) ?_ | refine DW_A tabs rfl ?_ | refine DW_nil ?_ | refine W_A rfl ?_ | refine DW_C rfl kb ?_ | refine DW_C rfl kc ?_ | refine DW_C rfl km ?_ | refine DW_C rfl ka ?_ | refine DW_C rfl y1 ?_ | refine DW_C rfl y2 ?_ | refine DW_C rfl s1 ?_ | refine DW_C rfl s2 ?_ | refine DW_C rfl l1 ?_ | refine DW_C rfl l2 ?_ | refine DW_C rfl g1 ?_ | refine DW_C rfl g2 ?_ | refine DW_C rfl i1 ?_ | refine DW_C rfl i2 ?_ | refine DW_C rfl e1 ?_ | refine DW_C rfl e2 ?_ | refine DW_C rfl se ?_ | refine DW_C rfl sl ?_ | refine DW_C rfl sh ?_ | refine DW_C rfl sT ?_ | refine DW_C rfl kst ?_ | refine DW_C rfl ku ?_ | refine DW_C rfl su ?_ | refine DW_row tabOK rfl ?_)
          exact ⟨rfl, _, rfl, _, rfl, SubC.of_closed closed_bool⟩
    · rw [h2] at kc
      unfold prA chA at *
      repeat' (first | refine DW_A tabs rfl ?_ | refine DW_nil ?_ | refine W_A rfl ?_ | refine DW_C rfl kb ?_ | refine DW_C rfl kc ?_ | refine DW_row tabOK rfl ?_)
      exact ⟨rfl, _, rfl, _, rfl, SubC.of_closed closed_bool⟩
  · rw [h] at kb
    unfold prA chA at *
    repeat' (first | refine DW_A tabs rfl ?_ | refine DW_nil ?_ | refine W_A rfl ?_ | refine DW_C rfl kb ?_ | refine DW_row tabOK rfl ?_)
    exact ⟨rfl, _, rfl, _, rfl, SubC.of_closed closed_bool⟩
end Go.Proofs.YthdeopopodhimaaGreatDoor
