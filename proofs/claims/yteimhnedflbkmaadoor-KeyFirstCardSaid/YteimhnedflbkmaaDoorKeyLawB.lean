/- The statements on keys tell true: what they do, the first ones, those under a directory. No further condition. -/
import Derived.Test.YteimhnedflbkmaaDoorKeyLawA
import Derived.Test.YteimhnedflbkmaaDoorPathU
set_option linter.unusedVariables false
set_option linter.unusedSimpArgs false
namespace Go.Proofs.YteimhnedflbkmaaDoor
open Go.Ab

set_option maxHeartbeats 2000000 in
set_option maxRecDepth 100000 in
theorem keyDoes_ok (a b : Ky) (s : Bytes) (t : Int) : APure Tryd.prog 5 [a.av, b.av, .str s, .int .i64 t] (.bool true) := by
  refine pure_sub ?_ closed_bool ?_
  · intro z hz
    simp only [List.mem_cons, List.not_mem_nil, or_false] at hz
    rcases hz with rfl | rfl | rfl | rfl
    · exact closed_ky a
    · exact closed_ky b
    · exact closed_str
    · exact closed_int
  refine acalls_of tabOK Tryd.func5 rfl (by decide) (by simp [Tryd.f5]) ?_
  have ks := fun tg => short_ok [a.path, b.path, s] (by simp) tg
  cases hsh : [a.path, b.path, s].all fun s => decide (s.length ≤ 300)
  · rw [hsh] at ks
    repeat' (first | (show DW _ _ _ _ _ _ _ _; first | refine DW_A tabs rfl ?_ | refine DW_nil ?_ | refine DW_lits tabOK rfl rfl rfl rfl rfl rfl rfl rfl rfl rfl rfl rfl rfl ?_ | refine DW_pure rfl rfl rfl rfl rfl (ks _) ?_ | refine DW_append_own tabOK rfl rfl rfl rfl rfl rfl rfl rfl rfl rfl rfl rfl rfl rfl rfl (by simp; omega) (by simp; omega) ?_) | (show W _ _ _ _ _ _; first | refine W_seq ?_ | refine W_text rfl (fun _ _ _ h => h) ?_ | refine W_block ?_ | refine W_skip ?_ | refine W_exit ?_ | refine W_ret ?_ | refine W_true rfl ?_ | refine W_false rfl ?_ | refine W_cond rfl (fun _ => ?_) (fun _ => ?_) | refine W_draw mixed [0, 1, 2, 3, 4, 5, 6, 7, 8, 9, 10, 11, 12, 13, 14, 15, 16, 17, 18, 19, 20, 21, 22, 23, 24, 25, 26, 27, 28, 29, 30, 31, 32, 33, 34, 35, 36, 37, 38, 39, 40, 41, 42, 43, 44, 45, 46, 47, 48, 49, 50, 51, 52, 53, 54, 55, 56] [.P, .P, .R, .P, .R, .P, .P, .P, .P, .R, .R, .P, .R, .R, .P, .P, .P, .P, .R, .R, .P, .R, .R, .P, .P, .P, .P, .P, .P, .P, .P, .P, .P, .P, .P, .P, .P, .R, .R, .P, .P, .P, .P, .P, .P, .P, .P, .R, .R, .P, .P, .P, .P, .P, .P, .P, .P] rfl rfl (by kernel_rfl) ?_))
    exact ⟨rfl, _, rfl, _, rfl, SubC.of_closed closed_bool⟩
  · rw [hsh] at ks
    obtain ⟨h1, h2, h3⟩ := all3 hsh
    have k1 := put_ok a (by omega)
    have k2 := rPut_ok a (by omega)
    have k3 := get_ok s (by omega)
    have k4 := rGet_ok s (by omega)
    rw [rgetB_eq] at k4
    have k5 := kFirst_ok s t (by omega)
    have k6 := rFirst_ok s t (by omega)
    have k7 := isKey_ok a (by omega)
    have k8 := rIsKey_ok a (by omega)
    have k9 := less_ok a b
    rw [toS_neg] at k9
    have k10 := rless_ok a b
    have k11 := compare_ok a b
    rw [toS_rcmp] at k11
    have k12 := rcmp_ok a b
    generalize putB a = z1 at k1 k2
    generalize getB s = z2 at k3 k4
    generalize firstB s t = z3 at k5 k6
    generalize isKeyB a = z4 at k7 k8
    generalize rless a b = z5 at k9 k10
    generalize rcmp a b = z6 at k11 k12
    obtain ⟨p1, p2⟩ := z1
    obtain ⟨⟨g1, g2⟩, g3⟩ := z2
    obtain ⟨⟨f1, f2⟩, f3⟩ := z3
    have q1 := self_eq p1
    have q2 : decide (p2 = p2) = true := by simp
    have q3 : ((g1 == g1) && ((decide (g2 = g2)) && true)) = true := by simp
    have q4 : decide (g3 = g3) = true := by simp
    have q5 : ((f1 == f1) && ((decide (f2 = f2)) && true)) = true := by simp
    have q6 : decide (f3 = f3) = true := by simp
    have q7 : (z4 == z4) = true := by simp
    have q8 : (z5 == z5) = true := by simp
    have q9 : decide (z6 = z6) = true := by simp
    repeat' (first | (show DW _ _ _ _ _ _ _ _; first | refine DW_V tabs rfl rfl rfl rfl (congrArg AV.bool q1) ?_ | refine DW_V tabs rfl rfl rfl rfl (congrArg AV.bool q2) ?_ | refine DW_V tabs rfl rfl rfl rfl (congrArg AV.bool q3) ?_ | refine DW_V tabs rfl rfl rfl rfl (congrArg AV.bool q4) ?_ | refine DW_V tabs rfl rfl rfl rfl (congrArg AV.bool q5) ?_ | refine DW_V tabs rfl rfl rfl rfl (congrArg AV.bool q6) ?_ | refine DW_V tabs rfl rfl rfl rfl (congrArg AV.bool q7) ?_ | refine DW_V tabs rfl rfl rfl rfl (congrArg AV.bool q8) ?_ | refine DW_V tabs rfl rfl rfl rfl (congrArg AV.bool q9) ?_ | refine DW_A tabs rfl ?_ | refine DW_nil ?_ | refine DW_lits tabOK rfl rfl rfl rfl rfl rfl rfl rfl rfl rfl rfl rfl rfl ?_ | refine DW_pure rfl rfl rfl rfl rfl (ks _) ?_ | refine DW_pure rfl rfl rfl rfl rfl k1 ?_ | refine DW_pure rfl rfl rfl rfl rfl k2 ?_ | refine DW_pure rfl rfl rfl rfl rfl k3 ?_ | refine DW_pure rfl rfl rfl rfl rfl k4 ?_ | refine DW_pure rfl rfl rfl rfl rfl k5 ?_ | refine DW_pure rfl rfl rfl rfl rfl k6 ?_ | refine DW_pure rfl rfl rfl rfl rfl keyed_ok ?_ | refine DW_pure rfl rfl rfl rfl rfl k7 ?_ | refine DW_pure rfl rfl rfl rfl rfl k8 ?_ | refine DW_pure rfl rfl rfl rfl rfl k9 ?_ | refine DW_pure rfl rfl rfl rfl rfl k10 ?_ | refine DW_pure rfl rfl rfl rfl rfl k11 ?_ | refine DW_pure rfl rfl rfl rfl rfl k12 ?_ | refine DW_append_own tabOK rfl rfl rfl rfl rfl rfl rfl rfl rfl rfl rfl rfl rfl rfl rfl (by simp; omega) (by simp; omega) ?_) | (show W _ _ _ _ _ _; first | refine W_seq ?_ | refine W_text rfl (fun _ _ _ h => h) ?_ | refine W_block ?_ | refine W_skip ?_ | refine W_exit ?_ | refine W_ret ?_ | refine W_true rfl ?_ | refine W_false rfl ?_ | refine W_cond rfl (fun _ => ?_) (fun _ => ?_) | refine W_draw mixed [0, 1, 2, 3, 4, 5, 6, 7, 8, 9, 10, 11, 12, 13, 14, 15, 16, 17, 18, 19, 20, 21, 22, 23, 24, 25, 26, 27, 28, 29, 30, 31, 32, 33, 34, 35, 36, 37, 38, 39, 40, 41, 42, 43, 44, 45, 46, 47, 48, 49, 50, 51, 52, 53, 54, 55, 56] [.P, .P, .R, .P, .R, .P, .P, .P, .P, .R, .R, .P, .R, .R, .P, .P, .P, .P, .R, .R, .P, .R, .R, .P, .P, .P, .P, .P, .P, .P, .P, .P, .P, .P, .P, .P, .P, .R, .R, .P, .P, .P, .P, .P, .P, .P, .P, .R, .R, .P, .P, .P, .P, .P, .P, .P, .P] rfl rfl (by kernel_rfl) ?_))
    exact ⟨rfl, _, rfl, _, rfl, SubC.of_closed closed_bool⟩

set_option maxHeartbeats 2000000 in
set_option maxRecDepth 100000 in
theorem keyFirst_ok (a : Ky) (t : Int) : APure Tryd.prog 6 [a.av, .int .i64 t] (.bool true) := by
  refine pure_sub (closed2 (closed_ky a) closed_int) closed_bool ?_
  refine acalls_of tabOK Tryd.func6 rfl (by decide) (by simp [Tryd.f6]) ?_
  have ks := fun tg => short_ok [a.path] (by simp) tg
  cases hsh : [a.path].all fun s => decide (s.length ≤ 300)
  · rw [hsh] at ks
    repeat' (first | (show DW _ _ _ _ _ _ _ _; first | refine DW_A tabs rfl ?_ | refine DW_nil ?_ | refine DW_lits tabOK rfl rfl rfl rfl rfl rfl rfl rfl rfl rfl rfl rfl rfl ?_ | refine DW_pure rfl rfl rfl rfl rfl (ks _) ?_ | refine DW_pure rfl rfl rfl rfl rfl keyed_ok ?_ | refine DW_append_own tabOK rfl rfl rfl rfl rfl rfl rfl rfl rfl rfl rfl rfl rfl rfl rfl (by simp; omega) (by simp; omega) ?_) | (show W _ _ _ _ _ _; first | refine W_seq ?_ | refine W_text rfl (fun _ _ _ h => h) ?_ | refine W_block ?_ | refine W_skip ?_ | refine W_exit ?_ | refine W_ret ?_ | refine W_true rfl ?_ | refine W_false rfl ?_ | refine W_cond rfl (fun _ => ?_) (fun _ => ?_) | refine W_draw mixed [0, 1, 2, 3, 4, 5, 6, 7, 8, 9, 10, 11, 12, 18, 13, 14, 15, 16, 17, 19, 20, 21, 22, 25, 23, 24, 26, 27, 28, 29, 30, 31, 32, 33, 34] [.P, .P, .R, .R, .R, .R, .P, .P, .P, .R, .P, .P, .P, .R, .R, .P, .R, .R, .P, .P, .P, .P, .P, .R, .R, .P, .P, .P, .R, .R, .P, .P, .P, .P, .P] rfl rfl (by kernel_rfl) ?_))
    exact ⟨rfl, _, rfl, _, rfl, SubC.of_closed closed_bool⟩
  · rw [hsh] at ks
    have h1 := all1 hsh
    have k1 := isKey_ok a (by omega)
    cases hk : isKeyB a
    · rw [hk] at k1
      repeat' (first | (show DW _ _ _ _ _ _ _ _; first | refine DW_A tabs rfl ?_ | refine DW_nil ?_ | refine DW_lits tabOK rfl rfl rfl rfl rfl rfl rfl rfl rfl rfl rfl rfl rfl ?_ | refine DW_pure rfl rfl rfl rfl rfl (ks _) ?_ | refine DW_pure rfl rfl rfl rfl rfl k1 ?_ | refine DW_pure rfl rfl rfl rfl rfl keyed_ok ?_ | refine DW_append_own tabOK rfl rfl rfl rfl rfl rfl rfl rfl rfl rfl rfl rfl rfl rfl rfl (by simp; omega) (by simp; omega) ?_) | (show W _ _ _ _ _ _; first | refine W_seq ?_ | refine W_text rfl (fun _ _ _ h => h) ?_ | refine W_block ?_ | refine W_skip ?_ | refine W_exit ?_ | refine W_ret ?_ | refine W_true rfl ?_ | refine W_false rfl ?_ | refine W_cond rfl (fun _ => ?_) (fun _ => ?_) | refine W_draw mixed [0, 1, 2, 3, 4, 5, 6, 7, 8, 9, 10, 11, 12, 18, 13, 14, 15, 16, 17, 19, 20, 21, 22, 25, 23, 24, 26, 27, 28, 29, 30, 31, 32, 33, 34] [.P, .P, .R, .R, .R, .R, .P, .P, .P, .R, .P, .P, .P, .R, .R, .P, .R, .R, .P, .P, .P, .P, .P, .R, .R, .P, .P, .P, .R, .R, .P, .P, .P, .P, .P] rfl rfl (by kernel_rfl) ?_))
      exact ⟨rfl, _, rfl, _, rfl, SubC.of_closed closed_bool⟩
    · rw [hk] at k1
      obtain ⟨hp, ha1, ha2⟩ := key_parts hk
      have k2 := kFirst_ok a.path t (by omega)
      rw [firstB_eq] at k2
      by_cases ht : t < 0
      · rw [if_pos (.inr ht)] at k2
        have d1 : decide (t < 0) = true := by simp [ht]
        repeat' (first | (show DW _ _ _ _ _ _ _ _; first | refine DW_V tabs rfl rfl rfl rfl (congrArg AV.bool d1) ?_ | refine DW_A tabs rfl ?_ | refine DW_nil ?_ | refine DW_lits tabOK rfl rfl rfl rfl rfl rfl rfl rfl rfl rfl rfl rfl rfl ?_ | refine DW_pure rfl rfl rfl rfl rfl (ks _) ?_ | refine DW_pure rfl rfl rfl rfl rfl k1 ?_ | refine DW_pure rfl rfl rfl rfl rfl k2 ?_ | refine DW_pure rfl rfl rfl rfl rfl keyed_ok ?_ | refine DW_append_own tabOK rfl rfl rfl rfl rfl rfl rfl rfl rfl rfl rfl rfl rfl rfl rfl (by simp; omega) (by simp; omega) ?_) | (show W _ _ _ _ _ _; first | refine W_seq ?_ | refine W_text rfl (fun _ _ _ h => h) ?_ | refine W_block ?_ | refine W_skip ?_ | refine W_exit ?_ | refine W_ret ?_ | refine W_true rfl ?_ | refine W_false rfl ?_ | refine W_cond rfl (fun _ => ?_) (fun _ => ?_) | refine W_draw mixed [0, 1, 2, 3, 4, 5, 6, 7, 8, 9, 10, 11, 12, 18, 13, 14, 15, 16, 17, 19, 20, 21, 22, 25, 23, 24, 26, 27, 28, 29, 30, 31, 32, 33, 34] [.P, .P, .R, .R, .R, .R, .P, .P, .P, .R, .P, .P, .P, .R, .R, .P, .R, .R, .P, .P, .P, .P, .P, .R, .R, .P, .P, .P, .R, .R, .P, .P, .P, .P, .P] rfl rfl (by kernel_rfl) ?_))
        exact ⟨rfl, _, rfl, _, rfl, SubC.of_closed closed_bool⟩
      · rw [if_neg (by simp [hp, ht])] at k2
        have k3 := isKey_ok ⟨a.path, min t 1000000000⟩ (by show a.path.length < _; omega)
        have hk3 : isKeyB ⟨a.path, min t 1000000000⟩ = true := by
          simp [isKeyB, hp]
          omega
        rw [hk3] at k3
        have k4 := less_ok a ⟨a.path, min t 1000000000⟩
        rw [toS_neg] at k4
        have hr : rless a ⟨a.path, min t 1000000000⟩ = decide (t < a.time) := by
          have hi := bl_irrefl a.path
          simp only [bl] at hi
          simp only [rless, hi, beq_self_eq_true, Bool.true_and, Bool.false_or]
          exact decide_eq_decide.2 (by omega)
        rw [hr] at k4
        have q1 := self_eq a.path
        cases hd : decide (t < a.time)
        · rw [hd] at k4
          repeat' (first | (show DW _ _ _ _ _ _ _ _; first | refine DW_V tabs rfl rfl rfl rfl (congrArg AV.bool q1) ?_ | refine DW_V tabs rfl rfl rfl rfl (congrArg AV.bool hd) ?_ | refine DW_A tabs rfl ?_ | refine DW_nil ?_ | refine DW_lits tabOK rfl rfl rfl rfl rfl rfl rfl rfl rfl rfl rfl rfl rfl ?_ | refine DW_pure rfl rfl rfl rfl rfl (ks _) ?_ | refine DW_pure rfl rfl rfl rfl rfl k1 ?_ | refine DW_pure rfl rfl rfl rfl rfl k2 ?_ | refine DW_pure rfl rfl rfl rfl rfl keyed_ok ?_ | refine DW_pure rfl rfl rfl rfl rfl k3 ?_ | refine DW_pure rfl rfl rfl rfl rfl k4 ?_ | refine DW_append_own tabOK rfl rfl rfl rfl rfl rfl rfl rfl rfl rfl rfl rfl rfl rfl rfl (by simp; omega) (by simp; omega) ?_) | (show W _ _ _ _ _ _; first | refine W_seq ?_ | refine W_text rfl (fun _ _ _ h => h) ?_ | refine W_block ?_ | refine W_skip ?_ | refine W_exit ?_ | refine W_ret ?_ | refine W_true rfl ?_ | refine W_false rfl ?_ | refine W_cond rfl (fun _ => ?_) (fun _ => ?_) | refine W_draw mixed [0, 1, 2, 3, 4, 5, 6, 7, 8, 9, 10, 11, 12, 18, 13, 14, 15, 16, 17, 19, 20, 21, 22, 25, 23, 24, 26, 27, 28, 29, 30, 31, 32, 33, 34] [.P, .P, .R, .R, .R, .R, .P, .P, .P, .R, .P, .P, .P, .R, .R, .P, .R, .R, .P, .P, .P, .P, .P, .R, .R, .P, .P, .P, .R, .R, .P, .P, .P, .P, .P] rfl rfl (by kernel_rfl) ?_))
          exact ⟨rfl, _, rfl, _, rfl, SubC.of_closed closed_bool⟩
        · rw [hd] at k4
          repeat' (first | (show DW _ _ _ _ _ _ _ _; first | refine DW_V tabs rfl rfl rfl rfl (congrArg AV.bool q1) ?_ | refine DW_V tabs rfl rfl rfl rfl (congrArg AV.bool hd) ?_ | refine DW_A tabs rfl ?_ | refine DW_nil ?_ | refine DW_lits tabOK rfl rfl rfl rfl rfl rfl rfl rfl rfl rfl rfl rfl rfl ?_ | refine DW_pure rfl rfl rfl rfl rfl (ks _) ?_ | refine DW_pure rfl rfl rfl rfl rfl k1 ?_ | refine DW_pure rfl rfl rfl rfl rfl k2 ?_ | refine DW_pure rfl rfl rfl rfl rfl keyed_ok ?_ | refine DW_pure rfl rfl rfl rfl rfl k3 ?_ | refine DW_pure rfl rfl rfl rfl rfl k4 ?_ | refine DW_append_own tabOK rfl rfl rfl rfl rfl rfl rfl rfl rfl rfl rfl rfl rfl rfl rfl (by simp; omega) (by simp; omega) ?_) | (show W _ _ _ _ _ _; first | refine W_seq ?_ | refine W_text rfl (fun _ _ _ h => h) ?_ | refine W_block ?_ | refine W_skip ?_ | refine W_exit ?_ | refine W_ret ?_ | refine W_true rfl ?_ | refine W_false rfl ?_ | refine W_cond rfl (fun _ => ?_) (fun _ => ?_) | refine W_draw mixed [0, 1, 2, 3, 4, 5, 6, 7, 8, 9, 10, 11, 12, 18, 13, 14, 15, 16, 17, 19, 20, 21, 22, 25, 23, 24, 26, 27, 28, 29, 30, 31, 32, 33, 34] [.P, .P, .R, .R, .R, .R, .P, .P, .P, .R, .P, .P, .P, .R, .R, .P, .R, .R, .P, .P, .P, .P, .P, .R, .R, .P, .P, .P, .R, .R, .P, .P, .P, .P, .P] rfl rfl (by kernel_rfl) ?_))
          exact ⟨rfl, _, rfl, _, rfl, SubC.of_closed closed_bool⟩

theorem under_less {d s : Bytes} (h : underB d s = true) (hn : d ≠ s) : bl d s = true := by
  unfold underB at h
  simp only [Bool.and_eq_true, Bool.or_eq_true, beq_iff_eq] at h
  rcases h.2 with (rfl | h1) | h1
  · cases s with
    | nil => exact absurd rfl hn
    | cons x l => rfl
  · exact absurd h1 hn
  · have := hasPre_is h1
    rw [this, List.append_assoc]
    exact bl_prefix 47 _ d

set_option maxHeartbeats 2000000 in
set_option maxRecDepth 100000 in
theorem keyUnder_ok (d : Bytes) (a : Ky) (t : Int) : APure Tryd.prog 7 [.str d, a.av, .int .i64 t] (.bool true) := by
  refine pure_sub (closed3 closed_str (closed_ky a) closed_int) closed_bool ?_
  refine acalls_of tabOK Tryd.func7 rfl (by decide) (by simp [Tryd.f7]) ?_
  have ks := fun tg => short_ok [d, a.path] (by simp) tg
  cases hsh : [d, a.path].all fun s => decide (s.length ≤ 300)
  · rw [hsh] at ks
    repeat' (first | (show DW _ _ _ _ _ _ _ _; first | refine DW_A tabs rfl ?_ | refine DW_nil ?_ | refine DW_lits tabOK rfl rfl rfl rfl rfl rfl rfl rfl rfl rfl rfl rfl rfl ?_ | refine DW_pure rfl rfl rfl rfl rfl (ks _) ?_ | refine DW_append_own tabOK rfl rfl rfl rfl rfl rfl rfl rfl rfl rfl rfl rfl rfl rfl rfl (by simp; omega) (by simp; omega) ?_) | (show W _ _ _ _ _ _; first | refine W_seq ?_ | refine W_text rfl (fun _ _ _ h => h) ?_ | refine W_block ?_ | refine W_skip ?_ | refine W_exit ?_ | refine W_ret ?_ | refine W_true rfl ?_ | refine W_false rfl ?_ | refine W_cond rfl (fun _ => ?_) (fun _ => ?_)))
    exact ⟨rfl, _, rfl, _, rfl, SubC.of_closed closed_bool⟩
  · rw [hsh] at ks
    obtain ⟨h1, h2⟩ := all2 hsh
    have k1 := under_ok d a.path (by omega) (by omega)
    cases hu : underB d a.path
    · rw [hu] at k1
      repeat' (first | (show DW _ _ _ _ _ _ _ _; first | refine DW_A tabs rfl ?_ | refine DW_nil ?_ | refine DW_lits tabOK rfl rfl rfl rfl rfl rfl rfl rfl rfl rfl rfl rfl rfl ?_ | refine DW_pure rfl rfl rfl rfl rfl (ks _) ?_ | refine DW_pure rfl rfl rfl rfl rfl k1 ?_ | refine DW_pure rfl rfl rfl rfl rfl keyed_ok ?_ | refine DW_append_own tabOK rfl rfl rfl rfl rfl rfl rfl rfl rfl rfl rfl rfl rfl rfl rfl (by simp; omega) (by simp; omega) ?_) | (show W _ _ _ _ _ _; first | refine W_seq ?_ | refine W_text rfl (fun _ _ _ h => h) ?_ | refine W_block ?_ | refine W_skip ?_ | refine W_exit ?_ | refine W_ret ?_ | refine W_true rfl ?_ | refine W_false rfl ?_ | refine W_cond rfl (fun _ => ?_) (fun _ => ?_)))
      exact ⟨rfl, _, rfl, _, rfl, SubC.of_closed closed_bool⟩
    · rw [hu] at k1
      cases he : d == a.path
      · have hl := under_less hu (by simpa using he)
        have hr : rless ⟨d, t⟩ a = true := by
          simp only [bl] at hl
          simp only [rless, hl, Bool.true_or]
        have k2 := less_ok ⟨d, t⟩ a
        rw [toS_neg, hr] at k2
        have k3 := less_ok a ⟨d, t⟩
        rw [toS_neg, rless_asymm hr] at k3
        repeat' (first | (show DW _ _ _ _ _ _ _ _; first | refine DW_V tabs rfl rfl rfl rfl (congrArg AV.bool he) ?_ | refine DW_A tabs rfl ?_ | refine DW_nil ?_ | refine DW_lits tabOK rfl rfl rfl rfl rfl rfl rfl rfl rfl rfl rfl rfl rfl ?_ | refine DW_pure rfl rfl rfl rfl rfl (ks _) ?_ | refine DW_pure rfl rfl rfl rfl rfl k1 ?_ | refine DW_pure rfl rfl rfl rfl rfl keyed_ok ?_ | refine DW_pure rfl rfl rfl rfl rfl k2 ?_ | refine DW_pure rfl rfl rfl rfl rfl k3 ?_ | refine DW_append_own tabOK rfl rfl rfl rfl rfl rfl rfl rfl rfl rfl rfl rfl rfl rfl rfl (by simp; omega) (by simp; omega) ?_) | (show W _ _ _ _ _ _; first | refine W_seq ?_ | refine W_text rfl (fun _ _ _ h => h) ?_ | refine W_block ?_ | refine W_skip ?_ | refine W_exit ?_ | refine W_ret ?_ | refine W_true rfl ?_ | refine W_false rfl ?_ | refine W_cond rfl (fun _ => ?_) (fun _ => ?_)))
        exact ⟨rfl, _, rfl, _, rfl, SubC.of_closed closed_bool⟩
      · repeat' (first | (show DW _ _ _ _ _ _ _ _; first | refine DW_V tabs rfl rfl rfl rfl (congrArg AV.bool he) ?_ | refine DW_A tabs rfl ?_ | refine DW_nil ?_ | refine DW_lits tabOK rfl rfl rfl rfl rfl rfl rfl rfl rfl rfl rfl rfl rfl ?_ | refine DW_pure rfl rfl rfl rfl rfl (ks _) ?_ | refine DW_pure rfl rfl rfl rfl rfl k1 ?_ | refine DW_pure rfl rfl rfl rfl rfl keyed_ok ?_ | refine DW_append_own tabOK rfl rfl rfl rfl rfl rfl rfl rfl rfl rfl rfl rfl rfl rfl rfl (by simp; omega) (by simp; omega) ?_) | (show W _ _ _ _ _ _; first | refine W_seq ?_ | refine W_text rfl (fun _ _ _ h => h) ?_ | refine W_block ?_ | refine W_skip ?_ | refine W_exit ?_ | refine W_ret ?_ | refine W_true rfl ?_ | refine W_false rfl ?_ | refine W_cond rfl (fun _ => ?_) (fun _ => ?_)))
        exact ⟨rfl, _, rfl, _, rfl, SubC.of_closed closed_bool⟩
end Go.Proofs.YteimhnedflbkmaaDoor
