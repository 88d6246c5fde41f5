/- The statements on paths tell true: Joins, Back. No further condition. -/
import Derived.Test.YteimhnedflbkmaaDoorM15
set_option linter.unusedVariables false
set_option linter.unusedSimpArgs false
namespace Go.Proofs.YteimhnedflbkmaaDoor
open Go.Ab

set_option maxHeartbeats 2000000 in
set_option maxRecDepth 100000 in
theorem pathJoins_ok (d s t : Bytes) (hd : d.length ≤ 0x7ffffffff000) (hs : s.length ≤ 0x7ffffffff000) (ht : t.length ≤ 0x7ffffffff000) : APure Tryd.prog 12 [.str d, .str s, .str t] (.bool true) := by
  refine pure_sub (closed3 closed_str closed_str closed_str) closed_bool ?_
  refine acalls_of tabOK Tryd.func12 rfl (by decide) (by simp [Tryd.f12]) ?_
  have w1 : IntKind.wrap .i64 ((d.length : Int) + (s.length : Int)) = ((d.length + s.length : Nat) : Int) := (Go.Ab.wrap_small (by omega) (by omega)).trans (by omega)
  have w2 : IntKind.wrap .i64 (((d.length + s.length : Nat) : Int) + (t.length : Int)) = ((d.length + s.length + t.length : Nat) : Int) := (Go.Ab.wrap_small (by omega) (by omega)).trans (by omega)
  by_cases h3 : 300 < d.length + s.length + t.length
  · have d3 : decide ((300 : Int) < ((d.length + s.length + t.length : Nat) : Int)) = true := by simp only [decide_eq_true_eq]; omega
    repeat' (first | (show DW _ _ _ _ _ _ _ _; first | refine DW_V tabs rfl rfl rfl rfl (congrArg AV.bool d3) ?_ | refine DW_V tabs rfl rfl rfl rfl (congrArg (AV.int _) w1) ?_ | refine DW_V tabs rfl rfl rfl rfl (congrArg (AV.int _) w2) ?_ | refine DW_A tabs rfl ?_ | refine DW_nil ?_ | refine DW_lits tabOK rfl rfl rfl rfl rfl rfl rfl rfl rfl rfl rfl rfl rfl ?_ | refine DW_append_own tabOK rfl rfl rfl rfl rfl rfl rfl rfl rfl rfl rfl rfl rfl rfl rfl (by simp; omega) (by simp; omega) ?_) | (show W _ _ _ _ _ _; first | refine W_seq ?_ | refine W_text rfl (fun _ _ _ h => h) ?_ | refine W_block ?_ | refine W_skip ?_ | refine W_exit ?_ | refine W_ret ?_ | refine W_true rfl ?_ | refine W_false rfl ?_ | refine W_cond rfl (fun _ => ?_) (fun _ => ?_)))
    exact ⟨rfl, _, rfl, _, rfl, SubC.of_closed closed_bool⟩
  · have d3 : decide ((300 : Int) < ((d.length + s.length + t.length : Nat) : Int)) = false := by simp only [decide_eq_false_iff_not]; omega
    have k1 := pJoin_ok d s (by omega) (by omega)
    rcases join_cases d s with h | ⟨a, h, hp, hl⟩
    · rw [h] at k1
      repeat' (first | (show DW _ _ _ _ _ _ _ _; first | refine DW_V tabs rfl rfl rfl rfl (congrArg AV.bool d3) ?_ | refine DW_V tabs rfl rfl rfl rfl (congrArg (AV.int _) w1) ?_ | refine DW_V tabs rfl rfl rfl rfl (congrArg (AV.int _) w2) ?_ | refine DW_A tabs rfl ?_ | refine DW_nil ?_ | refine DW_lits tabOK rfl rfl rfl rfl rfl rfl rfl rfl rfl rfl rfl rfl rfl ?_ | refine DW_pure rfl rfl rfl rfl rfl k1 ?_ | refine DW_pure rfl rfl rfl rfl rfl paths_ok ?_ | refine DW_append_own tabOK rfl rfl rfl rfl rfl rfl rfl rfl rfl rfl rfl rfl rfl rfl rfl (by simp; omega) (by simp; omega) ?_) | (show W _ _ _ _ _ _; first | refine W_seq ?_ | refine W_text rfl (fun _ _ _ h => h) ?_ | refine W_block ?_ | refine W_skip ?_ | refine W_exit ?_ | refine W_ret ?_ | refine W_true rfl ?_ | refine W_false rfl ?_ | refine W_cond rfl (fun _ => ?_) (fun _ => ?_)))
      exact ⟨rfl, _, rfl, _, rfl, SubC.of_closed closed_bool⟩
    · rw [h] at k1
      have k2 := pJoin_ok a t (by omega) (by omega)
      have k3 := pJoin_ok d (s ++ [47] ++ t) (by omega) (by simp; omega)
      have e3 : s ++ [47] ++ t = s ++ 47 :: t := by simp
      rw [join_join h (by omega), ← e3] at k2
      generalize joinB d (s ++ [47] ++ t) = z at k2 k3
      obtain ⟨b, f⟩ := z
      have c1 := self_eq b
      have c2 : decide (f = f) = true := by simp
      repeat' (first | (show DW _ _ _ _ _ _ _ _; first | refine DW_V tabs rfl rfl rfl rfl (congrArg AV.bool d3) ?_ | refine DW_V tabs rfl rfl rfl rfl (congrArg (AV.int _) w1) ?_ | refine DW_V tabs rfl rfl rfl rfl (congrArg (AV.int _) w2) ?_ | refine DW_A tabs rfl ?_ | refine DW_nil ?_ | refine DW_lits tabOK rfl rfl rfl rfl rfl rfl rfl rfl rfl rfl rfl rfl rfl ?_ | refine DW_pure rfl rfl rfl rfl rfl k1 ?_ | refine DW_pure rfl rfl rfl rfl rfl k2 ?_ | refine DW_append_own tabOK rfl rfl rfl rfl rfl rfl rfl rfl rfl rfl rfl rfl rfl rfl rfl (by simp; omega) (by simp; omega) ?_) | (show W _ _ _ _ _ _; first | refine W_seq ?_ | refine W_text rfl (fun _ _ _ h => h) ?_ | refine W_block ?_ | refine W_skip ?_ | refine W_exit ?_ | refine W_ret ?_ | refine W_true rfl ?_ | refine W_false rfl ?_ | refine W_cond rfl (fun _ => ?_) (fun _ => ?_)))
      refine DW_concat rfl rfl rfl rfl rfl rfl (by simp; omega) ?_
      repeat' (first | (show DW _ _ _ _ _ _ _ _; first | refine DW_V tabs rfl rfl rfl rfl (congrArg AV.bool d3) ?_ | refine DW_V tabs rfl rfl rfl rfl (congrArg (AV.int _) w1) ?_ | refine DW_V tabs rfl rfl rfl rfl (congrArg (AV.int _) w2) ?_ | refine DW_A tabs rfl ?_ | refine DW_nil ?_ | refine DW_lits tabOK rfl rfl rfl rfl rfl rfl rfl rfl rfl rfl rfl rfl rfl ?_ | refine DW_pure rfl rfl rfl rfl rfl k1 ?_ | refine DW_pure rfl rfl rfl rfl rfl k2 ?_ | refine DW_append_own tabOK rfl rfl rfl rfl rfl rfl rfl rfl rfl rfl rfl rfl rfl rfl rfl (by simp; omega) (by simp; omega) ?_) | (show W _ _ _ _ _ _; first | refine W_seq ?_ | refine W_text rfl (fun _ _ _ h => h) ?_ | refine W_block ?_ | refine W_skip ?_ | refine W_exit ?_ | refine W_ret ?_ | refine W_true rfl ?_ | refine W_false rfl ?_ | refine W_cond rfl (fun _ => ?_) (fun _ => ?_)))
      refine DW_concat rfl rfl rfl rfl rfl rfl (by simp; omega) ?_
      repeat' (first | (show DW _ _ _ _ _ _ _ _; first | refine DW_V tabs rfl rfl rfl rfl (congrArg AV.bool c1) ?_ | refine DW_V tabs rfl rfl rfl rfl (congrArg AV.bool c2) ?_ | refine DW_A tabs rfl ?_ | refine DW_nil ?_ | refine DW_lits tabOK rfl rfl rfl rfl rfl rfl rfl rfl rfl rfl rfl rfl rfl ?_ | refine DW_pure rfl rfl rfl rfl rfl k3 ?_ | refine DW_pure rfl rfl rfl rfl rfl paths_ok ?_ | refine DW_append_own tabOK rfl rfl rfl rfl rfl rfl rfl rfl rfl rfl rfl rfl rfl rfl rfl (by simp; omega) (by simp; omega) ?_) | (show W _ _ _ _ _ _; first | refine W_seq ?_ | refine W_text rfl (fun _ _ _ h => h) ?_ | refine W_block ?_ | refine W_skip ?_ | refine W_exit ?_ | refine W_ret ?_ | refine W_true rfl ?_ | refine W_false rfl ?_ | refine W_cond rfl (fun _ => ?_) (fun _ => ?_)))
      exact ⟨rfl, _, rfl, _, rfl, SubC.of_closed closed_bool⟩

set_option maxHeartbeats 2000000 in
set_option maxRecDepth 100000 in
theorem pathBack_ok (s : Bytes) : APure Tryd.prog 13 [.str s] (.bool true) := by
  refine pure_sub (closed1 closed_str) closed_bool ?_
  refine acalls_of tabOK Tryd.func13 rfl (by decide) (by simp [Tryd.f13]) ?_
  by_cases h5 : 500 < s.length
  · have d5 : decide ((500 : Int) < (s.length : Int)) = true := by simp; omega
    repeat' (first | (show DW _ _ _ _ _ _ _ _; first | refine DW_V tabs rfl rfl rfl rfl (congrArg AV.bool d5) ?_ | refine DW_A tabs rfl ?_ | refine DW_nil ?_ | refine DW_lits tabOK rfl rfl rfl rfl rfl rfl rfl rfl rfl rfl rfl rfl rfl ?_ | refine DW_append_own tabOK rfl rfl rfl rfl rfl rfl rfl rfl rfl rfl rfl rfl rfl rfl rfl (by simp; omega) (by simp; omega) ?_) | (show W _ _ _ _ _ _; first | refine W_seq ?_ | refine W_text rfl (fun _ _ _ h => h) ?_ | refine W_block ?_ | refine W_skip ?_ | refine W_exit ?_ | refine W_ret ?_ | refine W_true rfl ?_ | refine W_false rfl ?_ | refine W_cond rfl (fun _ => ?_) (fun _ => ?_)))
    exact ⟨rfl, _, rfl, _, rfl, SubC.of_closed closed_bool⟩
  · have d5 : decide ((500 : Int) < (s.length : Int)) = false := by simp; omega
    have k1 := parent_ok s (by omega)
    have k2 := base_ok s (by omega)
    rcases cut_cases s with ⟨hc, hs⟩ | ⟨p, b, hc, hp, hpp, hl, hj, hu1, hu2, hdp⟩
    · rw [hc] at k1 k2
      by_cases h0 : s = []
      · have d0 : (s == []) = true := by simp [h0]
        repeat' (first | (show DW _ _ _ _ _ _ _ _; first | refine DW_V tabs rfl rfl rfl rfl (congrArg AV.bool d5) ?_ | refine DW_V tabs rfl rfl rfl rfl (congrArg AV.bool d0) ?_ | refine DW_A tabs rfl ?_ | refine DW_nil ?_ | refine DW_lits tabOK rfl rfl rfl rfl rfl rfl rfl rfl rfl rfl rfl rfl rfl ?_ | refine DW_pure rfl rfl rfl rfl rfl k1 ?_ | refine DW_pure rfl rfl rfl rfl rfl k2 ?_ | refine DW_pure rfl rfl rfl rfl rfl paths_ok ?_ | refine DW_append_own tabOK rfl rfl rfl rfl rfl rfl rfl rfl rfl rfl rfl rfl rfl rfl rfl (by simp; omega) (by simp; omega) ?_) | (show W _ _ _ _ _ _; first | refine W_seq ?_ | refine W_text rfl (fun _ _ _ h => h) ?_ | refine W_block ?_ | refine W_skip ?_ | refine W_exit ?_ | refine W_ret ?_ | refine W_true rfl ?_ | refine W_false rfl ?_ | refine W_cond rfl (fun _ => ?_) (fun _ => ?_)))
        exact ⟨rfl, _, rfl, _, rfl, SubC.of_closed closed_bool⟩
      · have d0 : (s == []) = false := by simp [h0]
        have ki := isPath_ok s (by omega)
        rw [hs.resolve_left h0] at ki
        repeat' (first | (show DW _ _ _ _ _ _ _ _; first | refine DW_V tabs rfl rfl rfl rfl (congrArg AV.bool d5) ?_ | refine DW_V tabs rfl rfl rfl rfl (congrArg AV.bool d0) ?_ | refine DW_A tabs rfl ?_ | refine DW_nil ?_ | refine DW_lits tabOK rfl rfl rfl rfl rfl rfl rfl rfl rfl rfl rfl rfl rfl ?_ | refine DW_pure rfl rfl rfl rfl rfl k1 ?_ | refine DW_pure rfl rfl rfl rfl rfl k2 ?_ | refine DW_pure rfl rfl rfl rfl rfl ki ?_ | refine DW_pure rfl rfl rfl rfl rfl paths_ok ?_ | refine DW_append_own tabOK rfl rfl rfl rfl rfl rfl rfl rfl rfl rfl rfl rfl rfl rfl rfl (by simp; omega) (by simp; omega) ?_) | (show W _ _ _ _ _ _; first | refine W_seq ?_ | refine W_text rfl (fun _ _ _ h => h) ?_ | refine W_block ?_ | refine W_skip ?_ | refine W_exit ?_ | refine W_ret ?_ | refine W_true rfl ?_ | refine W_false rfl ?_ | refine W_cond rfl (fun _ => ?_) (fun _ => ?_)))
        exact ⟨rfl, _, rfl, _, rfl, SubC.of_closed closed_bool⟩
    · rw [hc] at k1 k2
      have k3 := pJoin_ok p b (by omega) (by omega)
      rw [hj] at k3
      have k4 := under_ok p s (by omega) (by omega)
      rw [hu1] at k4
      have k5 := under_ok s p (by omega) (by omega)
      rw [hu2] at k5
      have k6 := depth_ok p (by omega)
      have k7 := depth_ok s (by omega)
      rw [← hdp] at k7
      have hb : -1 ≤ depthB p ∧ depthB p ≤ 100001 := by
        have := List.count_le_length (l := p) (a := (47 : UInt8))
        unfold depthB Lib.countByte
        split
        · omega
        · split <;> omega
      generalize depthB p = n at k6 k7 hb
      have w1 : IntKind.wrap .i64 (n + 1) = n + 1 := Go.Ab.wrap_small (by omega) (by omega)
      have c1 := self_eq s
      have c2 : decide (n + 1 = n + 1) = true := by simp
      repeat' (first | (show DW _ _ _ _ _ _ _ _; first | refine DW_V tabs rfl rfl rfl rfl (congrArg AV.bool d5) ?_ | refine DW_V tabs rfl rfl rfl rfl (congrArg AV.bool c1) ?_ | refine DW_V tabs rfl rfl rfl rfl (congrArg AV.bool c2) ?_ | refine DW_V tabs rfl rfl rfl rfl (congrArg (AV.int _) w1) ?_ | refine DW_A tabs rfl ?_ | refine DW_nil ?_ | refine DW_lits tabOK rfl rfl rfl rfl rfl rfl rfl rfl rfl rfl rfl rfl rfl ?_ | refine DW_pure rfl rfl rfl rfl rfl k1 ?_ | refine DW_pure rfl rfl rfl rfl rfl k2 ?_ | refine DW_pure rfl rfl rfl rfl rfl k3 ?_ | refine DW_pure rfl rfl rfl rfl rfl k4 ?_ | refine DW_pure rfl rfl rfl rfl rfl k5 ?_ | refine DW_pure rfl rfl rfl rfl rfl k6 ?_ | refine DW_pure rfl rfl rfl rfl rfl k7 ?_ | refine DW_pure rfl rfl rfl rfl rfl paths_ok ?_ | refine DW_append_own tabOK rfl rfl rfl rfl rfl rfl rfl rfl rfl rfl rfl rfl rfl rfl rfl (by simp; omega) (by simp; omega) ?_) | (show W _ _ _ _ _ _; first | refine W_seq ?_ | refine W_text rfl (fun _ _ _ h => h) ?_ | refine W_block ?_ | refine W_skip ?_ | refine W_exit ?_ | refine W_ret ?_ | refine W_true rfl ?_ | refine W_false rfl ?_ | refine W_cond rfl (fun _ => ?_) (fun _ => ?_)))
      exact ⟨rfl, _, rfl, _, rfl, SubC.of_closed closed_bool⟩
end Go.Proofs.YteimhnedflbkmaaDoor
