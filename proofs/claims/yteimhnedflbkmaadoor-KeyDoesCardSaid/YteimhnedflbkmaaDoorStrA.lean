/- strings.HasPrefix tells what its text says. No further condition. -/
import Derived.Test.YteimhnedflbkmaaDoorBase
set_option linter.unusedVariables false
set_option linter.unusedSimpArgs false
namespace Go.Proofs.YteimhnedflbkmaaDoor
open Go.Ab

def hasPre (s p : Bytes) : Bool := decide (p.length ≤ s.length) && (s.take p.length == p)

theorem litePrefix_ok (s p : Bytes) : APure Tryd.prog 59 [.str s, .str p] (.bool (hasPre s p)) := by
  intro M
  refine acalls_of tabOK Tryd.func59 rfl (by decide) (by simp [Tryd.f59]) ?_
  unfold hasPre
  by_cases h : p.length ≤ s.length
  · have d1 : decide ((p.length : Int) ≤ (s.length : Int)) = true := by simp; omega
    have e1 : decide (p.length ≤ s.length) = true := by simp [h]
    rw [e1]
    repeat' (first | (show DW _ _ _ _ _ _ _ _; first | refine DW_V tabs rfl rfl rfl rfl (congrArg AV.bool d1) ?_ | refine DW_A tabs rfl ?_ | refine DW_nil ?_ | refine DW_lits tabOK rfl rfl rfl rfl rfl rfl rfl rfl rfl rfl rfl rfl rfl ?_ | refine DW_append_own tabOK rfl rfl rfl rfl rfl rfl rfl rfl rfl rfl rfl rfl rfl rfl rfl (by simp; omega) (by simp; omega) ?_) | (show W _ _ _ _ _ _; first | refine W_seq ?_ | refine W_text rfl (fun _ _ _ h => h) ?_ | refine W_block ?_ | refine W_skip ?_ | refine W_exit ?_ | refine W_ret ?_ | refine W_true rfl ?_ | refine W_false rfl ?_ | refine W_cond rfl (fun _ => ?_) (fun _ => ?_)))
    refine DW_substr tabOK rfl rfl rfl rfl rfl rfl rfl rfl rfl (Int.le_refl 0) (Int.natCast_nonneg _) (by omega) ?_
    repeat' (first | (show DW _ _ _ _ _ _ _ _; first | refine DW_A tabs rfl ?_ | refine DW_nil ?_ | refine DW_lits tabOK rfl rfl rfl rfl rfl rfl rfl rfl rfl rfl rfl rfl rfl ?_ | refine DW_append_own tabOK rfl rfl rfl rfl rfl rfl rfl rfl rfl rfl rfl rfl rfl rfl rfl (by simp; omega) (by simp; omega) ?_) | (show W _ _ _ _ _ _; first | refine W_seq ?_ | refine W_text rfl (fun _ _ _ h => h) ?_ | refine W_block ?_ | refine W_skip ?_ | refine W_exit ?_ | refine W_ret ?_ | refine W_true rfl ?_ | refine W_false rfl ?_ | refine W_cond rfl (fun _ => ?_) (fun _ => ?_)))
    exact ⟨rfl, _, rfl, ret_bool (by simp), rfl⟩
  · have d1 : decide ((p.length : Int) ≤ (s.length : Int)) = false := by simp; omega
    have e1 : decide (p.length ≤ s.length) = false := by simp [h]
    rw [e1]
    repeat' (first | (show DW _ _ _ _ _ _ _ _; first | refine DW_V tabs rfl rfl rfl rfl (congrArg AV.bool d1) ?_ | refine DW_A tabs rfl ?_ | refine DW_nil ?_ | refine DW_lits tabOK rfl rfl rfl rfl rfl rfl rfl rfl rfl rfl rfl rfl rfl ?_ | refine DW_append_own tabOK rfl rfl rfl rfl rfl rfl rfl rfl rfl rfl rfl rfl rfl rfl rfl (by simp; omega) (by simp; omega) ?_) | (show W _ _ _ _ _ _; first | refine W_seq ?_ | refine W_text rfl (fun _ _ _ h => h) ?_ | refine W_block ?_ | refine W_skip ?_ | refine W_exit ?_ | refine W_ret ?_ | refine W_true rfl ?_ | refine W_false rfl ?_ | refine W_cond rfl (fun _ => ?_) (fun _ => ?_)))
    exact ⟨rfl, _, rfl, rfl, rfl⟩
theorem hasPrefix_ok (s p : Bytes) : APure Tryd.prog 44 [.str s, .str p] (.bool (hasPre s p)) := by
  intro M
  refine acalls_of tabOK Tryd.func44 rfl (by decide) (by simp [Tryd.f44]) ?_
  repeat' (first | (show DW _ _ _ _ _ _ _ _; first | refine DW_A tabs rfl ?_ | refine DW_nil ?_ | refine DW_lits tabOK rfl rfl rfl rfl rfl rfl rfl rfl rfl rfl rfl rfl rfl ?_ | refine DW_append_own tabOK rfl rfl rfl rfl rfl rfl rfl rfl rfl rfl rfl rfl rfl rfl rfl (by simp; omega) (by simp; omega) ?_) | (show W _ _ _ _ _ _; first | refine W_seq ?_ | refine W_text rfl (fun _ _ _ h => h) ?_ | refine W_block ?_ | refine W_skip ?_ | refine W_exit ?_ | refine W_ret ?_ | refine W_true rfl ?_ | refine W_false rfl ?_ | refine W_cond rfl (fun _ => ?_) (fun _ => ?_)))
  refine DW_pure rfl rfl rfl rfl rfl (litePrefix_ok s p) ?_
  repeat' (first | (show DW _ _ _ _ _ _ _ _; first | refine DW_A tabs rfl ?_ | refine DW_nil ?_ | refine DW_lits tabOK rfl rfl rfl rfl rfl rfl rfl rfl rfl rfl rfl rfl rfl ?_ | refine DW_append_own tabOK rfl rfl rfl rfl rfl rfl rfl rfl rfl rfl rfl rfl rfl rfl rfl (by simp; omega) (by simp; omega) ?_) | (show W _ _ _ _ _ _; first | refine W_seq ?_ | refine W_text rfl (fun _ _ _ h => h) ?_ | refine W_block ?_ | refine W_skip ?_ | refine W_exit ?_ | refine W_ret ?_ | refine W_true rfl ?_ | refine W_false rfl ?_ | refine W_cond rfl (fun _ => ?_) (fun _ => ?_)))
  exact ⟨rfl, _, rfl, rfl, rfl⟩
end Go.Proofs.YteimhnedflbkmaaDoor
