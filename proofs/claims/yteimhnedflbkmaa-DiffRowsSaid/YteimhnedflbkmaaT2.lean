/- A step of the proof that the law holds: functions of the program, each shown to compute what its text says. No further condition. -/
import Derived.Test.YteimhnedflbkmaaT0
namespace Go.Proofs.Yteimhnedflbkmaa
open Go.Ab

theorem same_ok (a b : List Dl) (ta tb : Tag) (ha : a.length < 9223372036854775807) : APure Try.prog 9 [.sl 2 (a.map Dl.av) ta, .sl 2 (b.map Dl.av) tb] (.bool (decide (a = b))) := by
  intro M
  refine acalls_of tabOK Try.func9 rfl (by decide) (by simp [Try.f9]) ?_
  repeat' (first
        | (show DW _ _ _ _ _ _ _ _; first
          | refine DW_Q tabs rfl rfl rfl rfl ?_
          | refine DW_nil ?_
          | refine DW_R tabOK rfl rfl rfl rfl rfl ?_
          | refine DW_E tabOK rfl rfl rfl rfl rfl ?_
          | refine DW_E0 tabOK rfl rfl rfl rfl rfl ?_
          | refine DW_no rfl rfl rfl ?_
          | refine DW_no0 rfl rfl rfl ?_
          | refine DW_lits tabOK rfl rfl rfl rfl rfl rfl rfl rfl rfl rfl rfl rfl rfl ?_
          | refine DW_append_own tabOK rfl rfl rfl rfl rfl rfl rfl rfl rfl rfl rfl rfl rfl rfl rfl (by simp; omega) (by simp; omega) ?_)
        | (show W _ _ _ _ _ _; first
          | refine W_seq ?_
          | refine W_text rfl (fun _ _ _ h => h) ?_
          | refine W_block ?_
          | refine W_skip ?_
          | refine W_exit ?_
          | refine W_ret ?_
          | refine W_true rfl ?_
          | refine W_false rfl ?_
          | refine W_cond rfl (fun _ => ?_) (fun _ => ?_)
          | refine W_draw mixed [0, 1, 4, 5, 2, 3, 6, 7, 8] [.P, .P, .R, .R, .P, .P, .R, .R, .P] rfl rfl (by kernel_rfl) ?_))
  · rename_i h
    refine ⟨rfl, _, rfl, ?_, rfl⟩
    have : ¬ a = b := by rintro rfl; simp at h
    exact ret_bool (by simp [this])
  · rename_i h
    have hl : a.length = b.length := by simp at h; omega
    refine W_count a.length (fun i f N => N = M ∧ a.take i = b.take i ∧ f = ⟨[(0, .sl 2 (a.map Dl.av) ta), (1, .sl 2 (b.map Dl.av) tb), (5, .int .i64 (i : Int))], []⟩) (Nat.zero_le _) ⟨rfl, by simp, rfl⟩ (Joint.le ?_ (Mem.le_refl _)) ?_
    · skip
      repeat (refine AF.le_cons rfl ?_)
      exact AF.le_nil rfl
    · rintro i f N hi ⟨rfl, hpre, rfl⟩
      repeat' (first
            | (show DW _ _ _ _ _ _ _ _; first
              | refine DW_Q tabs rfl rfl rfl rfl ?_
              | refine DW_nil ?_
              | refine DW_R tabOK rfl rfl rfl rfl rfl ?_
              | refine DW_E tabOK rfl rfl rfl rfl rfl ?_
              | refine DW_E0 tabOK rfl rfl rfl rfl rfl ?_
              | refine DW_no rfl rfl rfl ?_
              | refine DW_no0 rfl rfl rfl ?_
              | refine DW_lits tabOK rfl rfl rfl rfl rfl rfl rfl rfl rfl rfl rfl rfl rfl ?_
              | refine DW_append_own tabOK rfl rfl rfl rfl rfl rfl rfl rfl rfl rfl rfl rfl rfl rfl rfl (by simp; omega) (by simp; omega) ?_)
            | (show W _ _ _ _ _ _; first
              | refine W_seq ?_
              | refine W_text rfl (fun _ _ _ h => h) ?_
              | refine W_block ?_
              | refine W_skip ?_
              | refine W_exit ?_
              | refine W_ret ?_
              | refine W_true rfl ?_
              | refine W_false rfl ?_
              | refine W_cond rfl (fun _ => ?_) (fun _ => ?_)
              | refine W_draw mixed [0, 1, 4, 5, 2, 3, 6, 7, 8] [.P, .P, .R, .R, .P, .P, .R, .R, .P] rfl rfl (by kernel_rfl) ?_))
      · rename_i hlt
        have hi1 : i < a.length := by simp at hlt; omega
        have hx : a[i]? = some a[i] := List.getElem?_eq_getElem hi1
        have hy : b[i]? = some b[i] := List.getElem?_eq_getElem (by omega)
        refine DW_index tabOK rfl rfl rfl rfl rfl rfl rfl rfl rfl rfl (Int.natCast_nonneg _) (map_get hx) ?_
        repeat (first
              | refine DW_Q tabs rfl rfl rfl rfl ?_
              | refine DW_R tabOK rfl rfl rfl rfl rfl ?_
              | refine DW_E tabOK rfl rfl rfl rfl rfl ?_
              | refine DW_E0 tabOK rfl rfl rfl rfl rfl ?_
              | refine DW_no rfl rfl rfl ?_
              | refine DW_no0 rfl rfl rfl ?_)
        refine DW_index tabOK rfl rfl rfl rfl rfl rfl rfl rfl rfl rfl (Int.natCast_nonneg _) (map_get hy) ?_
        repeat' (first
              | (show DW _ _ _ _ _ _ _ _; first
                | refine DW_Q tabs rfl rfl rfl rfl ?_
                | refine DW_nil ?_
                | refine DW_R tabOK rfl rfl rfl rfl rfl ?_
                | refine DW_E tabOK rfl rfl rfl rfl rfl ?_
                | refine DW_E0 tabOK rfl rfl rfl rfl rfl ?_
                | refine DW_no rfl rfl rfl ?_
                | refine DW_no0 rfl rfl rfl ?_
                | refine DW_lits tabOK rfl rfl rfl rfl rfl rfl rfl rfl rfl rfl rfl rfl rfl ?_
                | refine DW_append_own tabOK rfl rfl rfl rfl rfl rfl rfl rfl rfl rfl rfl rfl rfl rfl rfl (by simp; omega) (by simp; omega) ?_)
              | (show W _ _ _ _ _ _; first
                | refine W_seq ?_
                | refine W_text rfl (fun _ _ _ h => h) ?_
                | refine W_block ?_
                | refine W_skip ?_
                | refine W_exit ?_
                | refine W_ret ?_
                | refine W_true rfl ?_
                | refine W_false rfl ?_
                | refine W_cond rfl (fun _ => ?_) (fun _ => ?_)
                | refine W_draw mixed [0, 1, 4, 5, 2, 3, 6, 7, 8] [.P, .P, .R, .R, .P, .P, .R, .R, .P] rfl rfl (by kernel_rfl) ?_))
        · rename_i hne
          refine ⟨rfl, _, rfl, ret_bool ?_, rfl⟩
          have : ¬ a = b := by
            rintro rfl
            simp at hne
          simp [this]
        · rename_i hne
          have heq : a[i] = b[i] := by
            simp at hne
            exact Dl.ext hne.1 hne.2
          refine ⟨hi1, _, N, ⟨rfl, ?_, rfl⟩, Joint.le ?_ (Mem.le_refl _)⟩
          · rw [take_succ hx, take_succ hy, hpre, heq]
          · refine AF.le_cons rfl (AF.le_cons rfl (AF.le_cons (int_eq (wrap_succ (by omega))) (AF.le_nil rfl)))
      · rename_i hlt
        have hi1 : i = a.length := by simp at hlt; omega
        refine ⟨rfl, _, rfl, ret_bool ?_, rfl⟩
        have : a = b := by
          subst hi1
          rw [List.take_length, hl, List.take_length] at hpre
          exact hpre
        simp [this]
end Go.Proofs.Yteimhnedflbkmaa
