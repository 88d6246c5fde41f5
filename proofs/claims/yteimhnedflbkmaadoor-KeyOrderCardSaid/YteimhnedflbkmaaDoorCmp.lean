/- cmp.Compare, at texts and at numbers, tells what its text says. No further condition. -/
import Derived.Test.YteimhnedflbkmaaDoorBase
set_option linter.unusedVariables false
set_option linter.unusedSimpArgs false
namespace Go.Proofs.YteimhnedflbkmaaDoor
open Go.Ab

theorem isNaNs_ok (s : Bytes) : APure Tryd.prog 69 [.str s] (.bool false) := by
  intro M
  refine acalls_of tabOK Tryd.func69 rfl (by decide) (by simp [Tryd.f69]) ?_
  have h : (!(s == s)) = false := by simp
  repeat' (first | (show DW _ _ _ _ _ _ _ _; first | refine DW_V tabs rfl rfl rfl rfl (congrArg AV.bool h) ?_ | refine DW_A tabs rfl ?_ | refine DW_nil ?_ | refine DW_lits tabOK rfl rfl rfl rfl rfl rfl rfl rfl rfl rfl rfl rfl rfl ?_ | refine DW_append_own tabOK rfl rfl rfl rfl rfl rfl rfl rfl rfl rfl rfl rfl rfl rfl rfl (by simp; omega) (by simp; omega) ?_) | (show W _ _ _ _ _ _; first | refine W_seq ?_ | refine W_text rfl (fun _ _ _ h => h) ?_ | refine W_block ?_ | refine W_skip ?_ | refine W_exit ?_ | refine W_ret ?_ | refine W_true rfl ?_ | refine W_false rfl ?_ | refine W_cond rfl (fun _ => ?_) (fun _ => ?_)))
  exact ⟨rfl, _, rfl, rfl, rfl⟩
theorem isNaNi_ok (s : Int) : APure Tryd.prog 70 [.int .i64 s] (.bool false) := by
  intro M
  refine acalls_of tabOK Tryd.func70 rfl (by decide) (by simp [Tryd.f70]) ?_
  have h : (!decide (s = s)) = false := by simp
  repeat' (first | (show DW _ _ _ _ _ _ _ _; first | refine DW_V tabs rfl rfl rfl rfl (congrArg AV.bool h) ?_ | refine DW_A tabs rfl ?_ | refine DW_nil ?_ | refine DW_lits tabOK rfl rfl rfl rfl rfl rfl rfl rfl rfl rfl rfl rfl rfl ?_ | refine DW_append_own tabOK rfl rfl rfl rfl rfl rfl rfl rfl rfl rfl rfl rfl rfl rfl rfl (by simp; omega) (by simp; omega) ?_) | (show W _ _ _ _ _ _; first | refine W_seq ?_ | refine W_text rfl (fun _ _ _ h => h) ?_ | refine W_block ?_ | refine W_skip ?_ | refine W_exit ?_ | refine W_ret ?_ | refine W_true rfl ?_ | refine W_false rfl ?_ | refine W_cond rfl (fun _ => ?_) (fun _ => ?_)))
  exact ⟨rfl, _, rfl, rfl, rfl⟩

def cmpS (a b : Bytes) : Int := if Op.bytesLess a b = true then -1 else if (a == b) = true then 0 else 1
def cmpI (a b : Int) : Int := if a < b then -1 else if b < a then 1 else 0

theorem compareI_ok (a b : Int) : APure Tryd.prog 58 [.int .i64 a, .int .i64 b] (.int .i64 (cmpI a b)) := by
  intro M
  refine acalls_of tabOK Tryd.func58 rfl (by decide) (by simp [Tryd.f58]) ?_
  repeat' (first | (show DW _ _ _ _ _ _ _ _; first | refine DW_A tabs rfl ?_ | refine DW_nil ?_ | refine DW_lits tabOK rfl rfl rfl rfl rfl rfl rfl rfl rfl rfl rfl rfl rfl ?_ | refine DW_append_own tabOK rfl rfl rfl rfl rfl rfl rfl rfl rfl rfl rfl rfl rfl rfl rfl (by simp; omega) (by simp; omega) ?_) | (show W _ _ _ _ _ _; first | refine W_seq ?_ | refine W_text rfl (fun _ _ _ h => h) ?_ | refine W_block ?_ | refine W_skip ?_ | refine W_exit ?_ | refine W_ret ?_ | refine W_true rfl ?_ | refine W_false rfl ?_ | refine W_cond rfl (fun _ => ?_) (fun _ => ?_)))
  refine DW_pure rfl rfl rfl rfl rfl (isNaNi_ok a) ?_
  repeat' (first | (show DW _ _ _ _ _ _ _ _; first | refine DW_A tabs rfl ?_ | refine DW_nil ?_ | refine DW_lits tabOK rfl rfl rfl rfl rfl rfl rfl rfl rfl rfl rfl rfl rfl ?_ | refine DW_append_own tabOK rfl rfl rfl rfl rfl rfl rfl rfl rfl rfl rfl rfl rfl rfl rfl (by simp; omega) (by simp; omega) ?_) | (show W _ _ _ _ _ _; first | refine W_seq ?_ | refine W_text rfl (fun _ _ _ h => h) ?_ | refine W_block ?_ | refine W_skip ?_ | refine W_exit ?_ | refine W_ret ?_ | refine W_true rfl ?_ | refine W_false rfl ?_ | refine W_cond rfl (fun _ => ?_) (fun _ => ?_)))
  refine DW_pure rfl rfl rfl rfl rfl (isNaNi_ok b) ?_
  by_cases h1 : a < b
  · have d1 : decide (a < b) = true := by simp [h1]
    have e : cmpI a b = -1 := by simp [cmpI, h1]
    rw [e]
    repeat' (first | (show DW _ _ _ _ _ _ _ _; first | refine DW_V tabs rfl rfl rfl rfl (congrArg AV.bool d1) ?_ | refine DW_A tabs rfl ?_ | refine DW_nil ?_ | refine DW_lits tabOK rfl rfl rfl rfl rfl rfl rfl rfl rfl rfl rfl rfl rfl ?_ | refine DW_append_own tabOK rfl rfl rfl rfl rfl rfl rfl rfl rfl rfl rfl rfl rfl rfl rfl (by simp; omega) (by simp; omega) ?_) | (show W _ _ _ _ _ _; first | refine W_seq ?_ | refine W_text rfl (fun _ _ _ h => h) ?_ | refine W_block ?_ | refine W_skip ?_ | refine W_exit ?_ | refine W_ret ?_ | refine W_true rfl ?_ | refine W_false rfl ?_ | refine W_cond rfl (fun _ => ?_) (fun _ => ?_)))
    exact ⟨rfl, _, rfl, rfl, rfl⟩
  · have d1 : decide (a < b) = false := by simp [h1]
    by_cases h2 : b < a
    · have d2 : decide (b < a) = true := by simp [h2]
      have e : cmpI a b = 1 := by simp [cmpI, h1, h2]
      rw [e]
      repeat' (first | (show DW _ _ _ _ _ _ _ _; first | refine DW_V tabs rfl rfl rfl rfl (congrArg AV.bool d1) ?_ | refine DW_V tabs rfl rfl rfl rfl (congrArg AV.bool d2) ?_ | refine DW_A tabs rfl ?_ | refine DW_nil ?_ | refine DW_lits tabOK rfl rfl rfl rfl rfl rfl rfl rfl rfl rfl rfl rfl rfl ?_ | refine DW_append_own tabOK rfl rfl rfl rfl rfl rfl rfl rfl rfl rfl rfl rfl rfl rfl rfl (by simp; omega) (by simp; omega) ?_) | (show W _ _ _ _ _ _; first | refine W_seq ?_ | refine W_text rfl (fun _ _ _ h => h) ?_ | refine W_block ?_ | refine W_skip ?_ | refine W_exit ?_ | refine W_ret ?_ | refine W_true rfl ?_ | refine W_false rfl ?_ | refine W_cond rfl (fun _ => ?_) (fun _ => ?_)))
      exact ⟨rfl, _, rfl, rfl, rfl⟩
    · have d2 : decide (b < a) = false := by simp [h2]
      have e : cmpI a b = 0 := by simp [cmpI, h1, h2]
      rw [e]
      repeat' (first | (show DW _ _ _ _ _ _ _ _; first | refine DW_V tabs rfl rfl rfl rfl (congrArg AV.bool d1) ?_ | refine DW_V tabs rfl rfl rfl rfl (congrArg AV.bool d2) ?_ | refine DW_A tabs rfl ?_ | refine DW_nil ?_ | refine DW_lits tabOK rfl rfl rfl rfl rfl rfl rfl rfl rfl rfl rfl rfl rfl ?_ | refine DW_append_own tabOK rfl rfl rfl rfl rfl rfl rfl rfl rfl rfl rfl rfl rfl rfl rfl (by simp; omega) (by simp; omega) ?_) | (show W _ _ _ _ _ _; first | refine W_seq ?_ | refine W_text rfl (fun _ _ _ h => h) ?_ | refine W_block ?_ | refine W_skip ?_ | refine W_exit ?_ | refine W_ret ?_ | refine W_true rfl ?_ | refine W_false rfl ?_ | refine W_cond rfl (fun _ => ?_) (fun _ => ?_)))
      exact ⟨rfl, _, rfl, rfl, rfl⟩

theorem compareS_ok (a b : Bytes) : APure Tryd.prog 57 [.str a, .str b] (.int .i64 (cmpS a b)) := by
  intro M
  refine acalls_of tabOK Tryd.func57 rfl (by decide) (by simp [Tryd.f57]) ?_
  repeat' (first | (show DW _ _ _ _ _ _ _ _; first | refine DW_A tabs rfl ?_ | refine DW_nil ?_ | refine DW_lits tabOK rfl rfl rfl rfl rfl rfl rfl rfl rfl rfl rfl rfl rfl ?_ | refine DW_append_own tabOK rfl rfl rfl rfl rfl rfl rfl rfl rfl rfl rfl rfl rfl rfl rfl (by simp; omega) (by simp; omega) ?_) | (show W _ _ _ _ _ _; first | refine W_seq ?_ | refine W_text rfl (fun _ _ _ h => h) ?_ | refine W_block ?_ | refine W_skip ?_ | refine W_exit ?_ | refine W_ret ?_ | refine W_true rfl ?_ | refine W_false rfl ?_ | refine W_cond rfl (fun _ => ?_) (fun _ => ?_)))
  refine DW_pure rfl rfl rfl rfl rfl (isNaNs_ok a) ?_
  repeat' (first | (show DW _ _ _ _ _ _ _ _; first | refine DW_A tabs rfl ?_ | refine DW_nil ?_ | refine DW_lits tabOK rfl rfl rfl rfl rfl rfl rfl rfl rfl rfl rfl rfl rfl ?_ | refine DW_append_own tabOK rfl rfl rfl rfl rfl rfl rfl rfl rfl rfl rfl rfl rfl rfl rfl (by simp; omega) (by simp; omega) ?_) | (show W _ _ _ _ _ _; first | refine W_seq ?_ | refine W_text rfl (fun _ _ _ h => h) ?_ | refine W_block ?_ | refine W_skip ?_ | refine W_exit ?_ | refine W_ret ?_ | refine W_true rfl ?_ | refine W_false rfl ?_ | refine W_cond rfl (fun _ => ?_) (fun _ => ?_)))
  refine DW_pure rfl rfl rfl rfl rfl (isNaNs_ok b) ?_
  cases h1 : Op.bytesLess a b
  · cases h2 : a == b
    · have d2 : (!(Op.bytesLess a b || a == b)) = true := by rw [h1, h2]; rfl
      have e : cmpS a b = 1 := by simp [cmpS, h1, h2]
      rw [e]
      repeat' (first | (show DW _ _ _ _ _ _ _ _; first | refine DW_V tabs rfl rfl rfl rfl (congrArg AV.bool h1) ?_ | refine DW_V tabs rfl rfl rfl rfl (congrArg AV.bool d2) ?_ | refine DW_A tabs rfl ?_ | refine DW_nil ?_ | refine DW_lits tabOK rfl rfl rfl rfl rfl rfl rfl rfl rfl rfl rfl rfl rfl ?_ | refine DW_append_own tabOK rfl rfl rfl rfl rfl rfl rfl rfl rfl rfl rfl rfl rfl rfl rfl (by simp; omega) (by simp; omega) ?_) | (show W _ _ _ _ _ _; first | refine W_seq ?_ | refine W_text rfl (fun _ _ _ h => h) ?_ | refine W_block ?_ | refine W_skip ?_ | refine W_exit ?_ | refine W_ret ?_ | refine W_true rfl ?_ | refine W_false rfl ?_ | refine W_cond rfl (fun _ => ?_) (fun _ => ?_)))
      exact ⟨rfl, _, rfl, rfl, rfl⟩
    · have d2 : (!(Op.bytesLess a b || a == b)) = false := by rw [h1, h2]; rfl
      have e : cmpS a b = 0 := by simp [cmpS, h1, h2]
      rw [e]
      repeat' (first | (show DW _ _ _ _ _ _ _ _; first | refine DW_V tabs rfl rfl rfl rfl (congrArg AV.bool h1) ?_ | refine DW_V tabs rfl rfl rfl rfl (congrArg AV.bool d2) ?_ | refine DW_A tabs rfl ?_ | refine DW_nil ?_ | refine DW_lits tabOK rfl rfl rfl rfl rfl rfl rfl rfl rfl rfl rfl rfl rfl ?_ | refine DW_append_own tabOK rfl rfl rfl rfl rfl rfl rfl rfl rfl rfl rfl rfl rfl rfl rfl (by simp; omega) (by simp; omega) ?_) | (show W _ _ _ _ _ _; first | refine W_seq ?_ | refine W_text rfl (fun _ _ _ h => h) ?_ | refine W_block ?_ | refine W_skip ?_ | refine W_exit ?_ | refine W_ret ?_ | refine W_true rfl ?_ | refine W_false rfl ?_ | refine W_cond rfl (fun _ => ?_) (fun _ => ?_)))
      exact ⟨rfl, _, rfl, rfl, rfl⟩
  · have e : cmpS a b = -1 := by simp [cmpS, h1]
    rw [e]
    repeat' (first | (show DW _ _ _ _ _ _ _ _; first | refine DW_V tabs rfl rfl rfl rfl (congrArg AV.bool h1) ?_ | refine DW_A tabs rfl ?_ | refine DW_nil ?_ | refine DW_lits tabOK rfl rfl rfl rfl rfl rfl rfl rfl rfl rfl rfl rfl rfl ?_ | refine DW_append_own tabOK rfl rfl rfl rfl rfl rfl rfl rfl rfl rfl rfl rfl rfl rfl rfl (by simp; omega) (by simp; omega) ?_) | (show W _ _ _ _ _ _; first | refine W_seq ?_ | refine W_text rfl (fun _ _ _ h => h) ?_ | refine W_block ?_ | refine W_skip ?_ | refine W_exit ?_ | refine W_ret ?_ | refine W_true rfl ?_ | refine W_false rfl ?_ | refine W_cond rfl (fun _ => ?_) (fun _ => ?_)))
    exact ⟨rfl, _, rfl, rfl, rfl⟩
end Go.Proofs.YteimhnedflbkmaaDoor
