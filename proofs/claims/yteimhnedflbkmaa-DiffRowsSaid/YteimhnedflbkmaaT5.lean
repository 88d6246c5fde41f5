/- A step of the proof that the law holds: functions of the program, each shown to compute what its text says. No further condition. -/
import Derived.Test.YteimhnedflbkmaaT0
namespace Go.Proofs.Yteimhnedflbkmaa
open Go.Ab

theorem eq29_ok (a b : List Int) (ta tb : Tag) (ha : a.length < 1000000000) : APure Try.prog 29 [.sl 1 (a.map intA) ta, .sl 1 (b.map intA) tb] (.bool (decide (a = b))) := by
  intro M
  refine acalls_of tabOK Try.func29 rfl (by decide) (by simp [Try.f29]) ?_
  repeat' (first
        | (show DW _ _ _ _ _ _ _ _; first
          | refine DW_Q tabs rfl rfl rfl rfl ?_
          | refine DW_nil ?_
          | refine DW_R tabOK rfl rfl rfl rfl rfl ?_
          | refine DW_E tabOK rfl rfl rfl rfl rfl ?_
          | refine DW_E0 tabOK rfl rfl rfl rfl rfl ?_
          | refine DW_no rfl rfl rfl ?_
          | refine DW_no0 rfl rfl rfl ?_
          | refine DW_lits tabOK rfl rfl rfl rfl rfl rfl rfl rfl rfl rfl rfl rfl rfl ?_
          | refine DW_append_own tabOK rfl rfl rfl rfl rfl rfl rfl rfl rfl rfl rfl rfl rfl rfl rfl (by simp; omega) (by simp; omega) ?_)
        | (show W _ _ _ _ _ _; first
          | refine W_seq ?_
          | refine W_text rfl (fun _ _ _ h => h) ?_
          | refine W_block ?_
          | refine W_skip ?_
          | refine W_exit ?_
          | refine W_ret ?_
          | refine W_true rfl ?_
          | refine W_false rfl ?_
          | refine W_cond rfl (fun _ => ?_) (fun _ => ?_)
          | refine W_draw mixed [0, 1, 4, 5, 2, 3, 6, 7, 8] [.P, .P, .R, .R, .P, .P, .R, .R, .P] rfl rfl (by kernel_rfl) ?_))
  · rename_i h
    refine ⟨rfl, _, rfl, ret_bool ?_, rfl⟩
    have : ¬ a = b := by rintro rfl; simp at h
    simp [this]
  · rename_i h
    have hl : a.length = b.length := by simp at h; omega
    refine W_count a.length (fun i f N => N = M ∧ a.take i = b.take i ∧ f = ⟨[(0, .sl 1 (a.map intA) ta), (1, .sl 1 (b.map intA) tb), (12, .int .i64 (a.length : Int)), (13, .int .i64 (i : Int))], []⟩) (Nat.zero_le _) ⟨rfl, by simp, rfl⟩ (Joint.le ?_ (Mem.le_refl _)) ?_
    · refine AF.le_cons rfl (AF.le_cons rfl (AF.le_cons (int_eq (by simp)) (AF.le_cons rfl (AF.le_nil rfl))))
    · rintro i f N hi ⟨rfl, hpre, rfl⟩
      repeat' (first
            | (show DW _ _ _ _ _ _ _ _; first
              | refine DW_Q tabs rfl rfl rfl rfl ?_
              | refine DW_nil ?_
              | refine DW_R tabOK rfl rfl rfl rfl rfl ?_
              | refine DW_E tabOK rfl rfl rfl rfl rfl ?_
              | refine DW_E0 tabOK rfl rfl rfl rfl rfl ?_
              | refine DW_no rfl rfl rfl ?_
              | refine DW_no0 rfl rfl rfl ?_
              | refine DW_lits tabOK rfl rfl rfl rfl rfl rfl rfl rfl rfl rfl rfl rfl rfl ?_
              | refine DW_append_own tabOK rfl rfl rfl rfl rfl rfl rfl rfl rfl rfl rfl rfl rfl rfl rfl (by simp; omega) (by simp; omega) ?_)
            | (show W _ _ _ _ _ _; first
              | refine W_seq ?_
              | refine W_text rfl (fun _ _ _ h => h) ?_
              | refine W_block ?_
              | refine W_skip ?_
              | refine W_exit ?_
              | refine W_ret ?_
              | refine W_true rfl ?_
              | refine W_false rfl ?_
              | refine W_cond rfl (fun _ => ?_) (fun _ => ?_)
              | refine W_draw mixed [0, 1, 4, 5, 2, 3, 6, 7, 8] [.P, .P, .R, .R, .P, .P, .R, .R, .P] rfl rfl (by kernel_rfl) ?_))
      · rename_i hlt
        have hi1 : i < a.length := by simp at hlt; omega
        have hx : a[i]? = some a[i] := List.getElem?_eq_getElem hi1
        have hy : b[i]? = some b[i] := List.getElem?_eq_getElem (by omega)
        refine DW_index tabOK rfl rfl rfl rfl rfl rfl rfl rfl rfl rfl (Int.natCast_nonneg _) (map_get hx) ?_
        repeat (first
              | refine DW_Q tabs rfl rfl rfl rfl ?_
              | refine DW_R tabOK rfl rfl rfl rfl rfl ?_
              | refine DW_E tabOK rfl rfl rfl rfl rfl ?_
              | refine DW_E0 tabOK rfl rfl rfl rfl rfl ?_
              | refine DW_no rfl rfl rfl ?_
              | refine DW_no0 rfl rfl rfl ?_)
        refine DW_index tabOK rfl rfl rfl rfl rfl rfl rfl rfl rfl rfl (Int.natCast_nonneg _) (map_get hy) ?_
        repeat' (first
              | (show DW _ _ _ _ _ _ _ _; first
                | refine DW_Q tabs rfl rfl rfl rfl ?_
                | refine DW_nil ?_
                | refine DW_R tabOK rfl rfl rfl rfl rfl ?_
                | refine DW_E tabOK rfl rfl rfl rfl rfl ?_
                | refine DW_E0 tabOK rfl rfl rfl rfl rfl ?_
                | refine DW_no rfl rfl rfl ?_
                | refine DW_no0 rfl rfl rfl ?_
                | refine DW_lits tabOK rfl rfl rfl rfl rfl rfl rfl rfl rfl rfl rfl rfl rfl ?_
                | refine DW_append_own tabOK rfl rfl rfl rfl rfl rfl rfl rfl rfl rfl rfl rfl rfl rfl rfl (by simp; omega) (by simp; omega) ?_)
              | (show W _ _ _ _ _ _; first
                | refine W_seq ?_
                | refine W_text rfl (fun _ _ _ h => h) ?_
                | refine W_block ?_
                | refine W_skip ?_
                | refine W_exit ?_
                | refine W_ret ?_
                | refine W_true rfl ?_
                | refine W_false rfl ?_
                | refine W_cond rfl (fun _ => ?_) (fun _ => ?_)
                | refine W_draw mixed [0, 1, 4, 5, 2, 3, 6, 7, 8] [.P, .P, .R, .R, .P, .P, .R, .R, .P] rfl rfl (by kernel_rfl) ?_))
        · rename_i hne
          refine ⟨rfl, _, rfl, ret_bool ?_, rfl⟩
          have : ¬ a = b := by
            rintro rfl
            simp at hne
          simp [this]
        · rename_i hne
          have heq : a[i] = b[i] := by simpa using hne
          refine ⟨hi1, _, N, ⟨rfl, ?_, rfl⟩, Joint.le ?_ (Mem.le_refl _)⟩
          · rw [take_succ hx, take_succ hy, hpre, heq]
          · refine AF.le_cons rfl (AF.le_cons rfl (AF.le_cons rfl (AF.le_cons (int_eq (wrap_succ (by omega))) (AF.le_nil rfl))))
      · rename_i hlt
        have hi1 : i = a.length := by simp at hlt; omega
        refine ⟨rfl, _, rfl, ret_bool ?_, rfl⟩
        have : a = b := by
          subst hi1
          rw [List.take_length, hl, List.take_length] at hpre
          exact hpre
        simp [this]

theorem eq30_ok (a b : List Int) (ta tb : Tag) (ha : a.length < 1000000000) : APure Try.prog 30 [.sl 1 (a.map intA) ta, .sl 1 (b.map intA) tb] (.bool (decide (a = b))) := by
  intro M
  refine acalls_of tabOK Try.func30 rfl (by decide) (by simp [Try.f30]) ?_
  repeat' (first
        | (show DW _ _ _ _ _ _ _ _; first
          | refine DW_Q tabs rfl rfl rfl rfl ?_
          | refine DW_nil ?_
          | refine DW_R tabOK rfl rfl rfl rfl rfl ?_
          | refine DW_E tabOK rfl rfl rfl rfl rfl ?_
          | refine DW_E0 tabOK rfl rfl rfl rfl rfl ?_
          | refine DW_no rfl rfl rfl ?_
          | refine DW_no0 rfl rfl rfl ?_
          | refine DW_lits tabOK rfl rfl rfl rfl rfl rfl rfl rfl rfl rfl rfl rfl rfl ?_
          | refine DW_append_own tabOK rfl rfl rfl rfl rfl rfl rfl rfl rfl rfl rfl rfl rfl rfl rfl (by simp; omega) (by simp; omega) ?_)
        | (show W _ _ _ _ _ _; first
          | refine W_seq ?_
          | refine W_text rfl (fun _ _ _ h => h) ?_
          | refine W_block ?_
          | refine W_skip ?_
          | refine W_exit ?_
          | refine W_ret ?_
          | refine W_true rfl ?_
          | refine W_false rfl ?_
          | refine W_cond rfl (fun _ => ?_) (fun _ => ?_)
          | refine W_draw mixed [0, 1, 4, 5, 2, 3, 6, 7, 8] [.P, .P, .R, .R, .P, .P, .R, .R, .P] rfl rfl (by kernel_rfl) ?_))
  · rename_i h
    refine ⟨rfl, _, rfl, ret_bool ?_, rfl⟩
    have : ¬ a = b := by rintro rfl; simp at h
    simp [this]
  · rename_i h
    have hl : a.length = b.length := by simp at h; omega
    refine W_count a.length (fun i f N => N = M ∧ a.take i = b.take i ∧ f = ⟨[(0, .sl 1 (a.map intA) ta), (1, .sl 1 (b.map intA) tb), (5, .int .i64 (i : Int))], []⟩) (Nat.zero_le _) ⟨rfl, by simp, rfl⟩ (Joint.le ?_ (Mem.le_refl _)) ?_
    · repeat (refine AF.le_cons rfl ?_)
      exact AF.le_nil rfl
    · rintro i f N hi ⟨rfl, hpre, rfl⟩
      repeat' (first
            | (show DW _ _ _ _ _ _ _ _; first
              | refine DW_Q tabs rfl rfl rfl rfl ?_
              | refine DW_nil ?_
              | refine DW_R tabOK rfl rfl rfl rfl rfl ?_
              | refine DW_E tabOK rfl rfl rfl rfl rfl ?_
              | refine DW_E0 tabOK rfl rfl rfl rfl rfl ?_
              | refine DW_no rfl rfl rfl ?_
              | refine DW_no0 rfl rfl rfl ?_
              | refine DW_lits tabOK rfl rfl rfl rfl rfl rfl rfl rfl rfl rfl rfl rfl rfl ?_
              | refine DW_append_own tabOK rfl rfl rfl rfl rfl rfl rfl rfl rfl rfl rfl rfl rfl rfl rfl (by simp; omega) (by simp; omega) ?_)
            | (show W _ _ _ _ _ _; first
              | refine W_seq ?_
              | refine W_text rfl (fun _ _ _ h => h) ?_
              | refine W_block ?_
              | refine W_skip ?_
              | refine W_exit ?_
              | refine W_ret ?_
              | refine W_true rfl ?_
              | refine W_false rfl ?_
              | refine W_cond rfl (fun _ => ?_) (fun _ => ?_)
              | refine W_draw mixed [0, 1, 4, 5, 2, 3, 6, 7, 8] [.P, .P, .R, .R, .P, .P, .R, .R, .P] rfl rfl (by kernel_rfl) ?_))
      · rename_i hlt
        have hi1 : i < a.length := by simp at hlt; omega
        have hx : a[i]? = some a[i] := List.getElem?_eq_getElem hi1
        have hy : b[i]? = some b[i] := List.getElem?_eq_getElem (by omega)
        refine DW_index tabOK rfl rfl rfl rfl rfl rfl rfl rfl rfl rfl (Int.natCast_nonneg _) (map_get hx) ?_
        repeat (first
              | refine DW_Q tabs rfl rfl rfl rfl ?_
              | refine DW_R tabOK rfl rfl rfl rfl rfl ?_
              | refine DW_E tabOK rfl rfl rfl rfl rfl ?_
              | refine DW_E0 tabOK rfl rfl rfl rfl rfl ?_
              | refine DW_no rfl rfl rfl ?_
              | refine DW_no0 rfl rfl rfl ?_)
        refine DW_index tabOK rfl rfl rfl rfl rfl rfl rfl rfl rfl rfl (Int.natCast_nonneg _) (map_get hy) ?_
        repeat' (first
              | (show DW _ _ _ _ _ _ _ _; first
                | refine DW_Q tabs rfl rfl rfl rfl ?_
                | refine DW_nil ?_
                | refine DW_R tabOK rfl rfl rfl rfl rfl ?_
                | refine DW_E tabOK rfl rfl rfl rfl rfl ?_
                | refine DW_E0 tabOK rfl rfl rfl rfl rfl ?_
                | refine DW_no rfl rfl rfl ?_
                | refine DW_no0 rfl rfl rfl ?_
                | refine DW_lits tabOK rfl rfl rfl rfl rfl rfl rfl rfl rfl rfl rfl rfl rfl ?_
                | refine DW_append_own tabOK rfl rfl rfl rfl rfl rfl rfl rfl rfl rfl rfl rfl rfl rfl rfl (by simp; omega) (by simp; omega) ?_)
              | (show W _ _ _ _ _ _; first
                | refine W_seq ?_
                | refine W_text rfl (fun _ _ _ h => h) ?_
                | refine W_block ?_
                | refine W_skip ?_
                | refine W_exit ?_
                | refine W_ret ?_
                | refine W_true rfl ?_
                | refine W_false rfl ?_
                | refine W_cond rfl (fun _ => ?_) (fun _ => ?_)
                | refine W_draw mixed [0, 1, 4, 5, 2, 3, 6, 7, 8] [.P, .P, .R, .R, .P, .P, .R, .R, .P] rfl rfl (by kernel_rfl) ?_))
        · rename_i hne
          refine ⟨rfl, _, rfl, ret_bool ?_, rfl⟩
          have : ¬ a = b := by
            rintro rfl
            simp at hne
          simp [this]
        · rename_i hne
          have heq : a[i] = b[i] := by simpa using hne
          refine ⟨hi1, _, N, ⟨rfl, ?_, rfl⟩, Joint.le ?_ (Mem.le_refl _)⟩
          · rw [take_succ hx, take_succ hy, hpre, heq]
          · refine AF.le_cons rfl (AF.le_cons rfl (AF.le_cons (int_eq (wrap_succ (by omega))) (AF.le_nil rfl)))
      · rename_i hlt
        have hi1 : i = a.length := by simp at hlt; omega
        refine ⟨rfl, _, rfl, ret_bool ?_, rfl⟩
        have : a = b := by
          subst hi1
          rw [List.take_length, hl, List.take_length] at hpre
          exact hpre
        simp [this]

theorem mt_eq (a b : Mt) : decide (a = b) = (decide (a.size = b.size) && decide (a.mode = b.mode) && decide (a.chunks = b.chunks)) := by
  rw [Bool.eq_iff_iff]
  cases a; cases b
  simp [and_assoc]

theorem same20_ok (a b : Mt) (ha : a.chunks.length < 1000000000) : APure Try.prog 20 [a.av, b.av] (.bool (decide (a = b))) := by
  intro M
  rw [mt_eq]
  refine acalls_of tabOK Try.func20 rfl (by decide) (by simp [Try.f20]) ?_
  cases h1 : decide (a.size = b.size)
  · repeat' (first
          | (show DW _ _ _ _ _ _ _ _; first
            | refine DW_V tabs rfl rfl rfl rfl (congrArg AV.bool h1) ?_
            | refine DW_Q tabs rfl rfl rfl rfl ?_
            | refine DW_nil ?_
            | refine DW_R tabOK rfl rfl rfl rfl rfl ?_
            | refine DW_E tabOK rfl rfl rfl rfl rfl ?_
            | refine DW_E0 tabOK rfl rfl rfl rfl rfl ?_
            | refine DW_no rfl rfl rfl ?_
            | refine DW_no0 rfl rfl rfl ?_
            | refine DW_lits tabOK rfl rfl rfl rfl rfl rfl rfl rfl rfl rfl rfl rfl rfl ?_
            | refine DW_append_own tabOK rfl rfl rfl rfl rfl rfl rfl rfl rfl rfl rfl rfl rfl rfl rfl (by simp; omega) (by simp; omega) ?_)
          | (show W _ _ _ _ _ _; first
            | refine W_seq ?_
            | refine W_text rfl (fun _ _ _ h => h) ?_
            | refine W_block ?_
            | refine W_skip ?_
            | refine W_exit ?_
            | refine W_ret ?_
            | refine W_true rfl ?_
            | refine W_false rfl ?_
            | refine W_cond rfl (fun _ => ?_) (fun _ => ?_)))
    exact ⟨rfl, _, rfl, rfl, rfl⟩
  · cases h2 : decide (a.mode = b.mode)
    · repeat' (first
            | (show DW _ _ _ _ _ _ _ _; first
              | refine DW_V tabs rfl rfl rfl rfl (congrArg AV.bool h1) ?_
              | refine DW_V tabs rfl rfl rfl rfl (congrArg AV.bool h2) ?_
              | refine DW_Q tabs rfl rfl rfl rfl ?_
              | refine DW_nil ?_
              | refine DW_R tabOK rfl rfl rfl rfl rfl ?_
              | refine DW_E tabOK rfl rfl rfl rfl rfl ?_
              | refine DW_E0 tabOK rfl rfl rfl rfl rfl ?_
              | refine DW_no rfl rfl rfl ?_
              | refine DW_no0 rfl rfl rfl ?_
              | refine DW_lits tabOK rfl rfl rfl rfl rfl rfl rfl rfl rfl rfl rfl rfl rfl ?_
              | refine DW_append_own tabOK rfl rfl rfl rfl rfl rfl rfl rfl rfl rfl rfl rfl rfl rfl rfl (by simp; omega) (by simp; omega) ?_)
            | (show W _ _ _ _ _ _; first
              | refine W_seq ?_
              | refine W_text rfl (fun _ _ _ h => h) ?_
              | refine W_block ?_
              | refine W_skip ?_
              | refine W_exit ?_
              | refine W_ret ?_
              | refine W_true rfl ?_
              | refine W_false rfl ?_
              | refine W_cond rfl (fun _ => ?_) (fun _ => ?_)))
      exact ⟨rfl, _, rfl, rfl, rfl⟩
    · repeat' (first
            | (show DW _ _ _ _ _ _ _ _; first
              | refine DW_V tabs rfl rfl rfl rfl (congrArg AV.bool h1) ?_
              | refine DW_V tabs rfl rfl rfl rfl (congrArg AV.bool h2) ?_
              | refine DW_Q tabs rfl rfl rfl rfl ?_
              | refine DW_nil ?_
              | refine DW_R tabOK rfl rfl rfl rfl rfl ?_
              | refine DW_E tabOK rfl rfl rfl rfl rfl ?_
              | refine DW_E0 tabOK rfl rfl rfl rfl rfl ?_
              | refine DW_no rfl rfl rfl ?_
              | refine DW_no0 rfl rfl rfl ?_
              | refine DW_lits tabOK rfl rfl rfl rfl rfl rfl rfl rfl rfl rfl rfl rfl rfl ?_
              | refine DW_append_own tabOK rfl rfl rfl rfl rfl rfl rfl rfl rfl rfl rfl rfl rfl rfl rfl (by simp; omega) (by simp; omega) ?_)
            | (show W _ _ _ _ _ _; first
              | refine W_seq ?_
              | refine W_text rfl (fun _ _ _ h => h) ?_
              | refine W_block ?_
              | refine W_skip ?_
              | refine W_exit ?_
              | refine W_ret ?_
              | refine W_true rfl ?_
              | refine W_false rfl ?_
              | refine W_cond rfl (fun _ => ?_) (fun _ => ?_)))
      refine DW_pure rfl rfl rfl rfl rfl (eq29_ok a.chunks b.chunks _ _ ha) ?_
      repeat' (first
            | (show DW _ _ _ _ _ _ _ _; first
              | refine DW_Q tabs rfl rfl rfl rfl ?_
              | refine DW_nil ?_
              | refine DW_R tabOK rfl rfl rfl rfl rfl ?_
              | refine DW_E tabOK rfl rfl rfl rfl rfl ?_
              | refine DW_E0 tabOK rfl rfl rfl rfl rfl ?_
              | refine DW_no rfl rfl rfl ?_
              | refine DW_no0 rfl rfl rfl ?_
              | refine DW_lits tabOK rfl rfl rfl rfl rfl rfl rfl rfl rfl rfl rfl rfl rfl ?_
              | refine DW_append_own tabOK rfl rfl rfl rfl rfl rfl rfl rfl rfl rfl rfl rfl rfl rfl rfl (by simp; omega) (by simp; omega) ?_)
            | (show W _ _ _ _ _ _; first
              | refine W_seq ?_
              | refine W_text rfl (fun _ _ _ h => h) ?_
              | refine W_block ?_
              | refine W_skip ?_
              | refine W_exit ?_
              | refine W_ret ?_
              | refine W_true rfl ?_
              | refine W_false rfl ?_
              | refine W_cond rfl (fun _ => ?_) (fun _ => ?_)))
      exact ⟨rfl, _, rfl, rfl, rfl⟩
theorem same21_ok (a b : Mt) (ha : a.chunks.length < 1000000000) : APure Try.prog 21 [a.av, b.av] (.bool (decide (a = b))) := by
  intro M
  rw [mt_eq]
  refine acalls_of tabOK Try.func21 rfl (by decide) (by simp [Try.f21]) ?_
  cases h1 : decide (a.size = b.size)
  · repeat' (first
          | (show DW _ _ _ _ _ _ _ _; first
            | refine DW_V tabs rfl rfl rfl rfl (congrArg AV.bool h1) ?_
            | refine DW_Q tabs rfl rfl rfl rfl ?_
            | refine DW_nil ?_
            | refine DW_R tabOK rfl rfl rfl rfl rfl ?_
            | refine DW_E tabOK rfl rfl rfl rfl rfl ?_
            | refine DW_E0 tabOK rfl rfl rfl rfl rfl ?_
            | refine DW_no rfl rfl rfl ?_
            | refine DW_no0 rfl rfl rfl ?_
            | refine DW_lits tabOK rfl rfl rfl rfl rfl rfl rfl rfl rfl rfl rfl rfl rfl ?_
            | refine DW_append_own tabOK rfl rfl rfl rfl rfl rfl rfl rfl rfl rfl rfl rfl rfl rfl rfl (by simp; omega) (by simp; omega) ?_)
          | (show W _ _ _ _ _ _; first
            | refine W_seq ?_
            | refine W_text rfl (fun _ _ _ h => h) ?_
            | refine W_block ?_
            | refine W_skip ?_
            | refine W_exit ?_
            | refine W_ret ?_
            | refine W_true rfl ?_
            | refine W_false rfl ?_
            | refine W_cond rfl (fun _ => ?_) (fun _ => ?_)))
    exact ⟨rfl, _, rfl, rfl, rfl⟩
  · cases h2 : decide (a.mode = b.mode)
    · repeat' (first
            | (show DW _ _ _ _ _ _ _ _; first
              | refine DW_V tabs rfl rfl rfl rfl (congrArg AV.bool h1) ?_
              | refine DW_V tabs rfl rfl rfl rfl (congrArg AV.bool h2) ?_
              | refine DW_Q tabs rfl rfl rfl rfl ?_
              | refine DW_nil ?_
              | refine DW_R tabOK rfl rfl rfl rfl rfl ?_
              | refine DW_E tabOK rfl rfl rfl rfl rfl ?_
              | refine DW_E0 tabOK rfl rfl rfl rfl rfl ?_
              | refine DW_no rfl rfl rfl ?_
              | refine DW_no0 rfl rfl rfl ?_
              | refine DW_lits tabOK rfl rfl rfl rfl rfl rfl rfl rfl rfl rfl rfl rfl rfl ?_
              | refine DW_append_own tabOK rfl rfl rfl rfl rfl rfl rfl rfl rfl rfl rfl rfl rfl rfl rfl (by simp; omega) (by simp; omega) ?_)
            | (show W _ _ _ _ _ _; first
              | refine W_seq ?_
              | refine W_text rfl (fun _ _ _ h => h) ?_
              | refine W_block ?_
              | refine W_skip ?_
              | refine W_exit ?_
              | refine W_ret ?_
              | refine W_true rfl ?_
              | refine W_false rfl ?_
              | refine W_cond rfl (fun _ => ?_) (fun _ => ?_)))
      exact ⟨rfl, _, rfl, rfl, rfl⟩
    · repeat' (first
            | (show DW _ _ _ _ _ _ _ _; first
              | refine DW_V tabs rfl rfl rfl rfl (congrArg AV.bool h1) ?_
              | refine DW_V tabs rfl rfl rfl rfl (congrArg AV.bool h2) ?_
              | refine DW_Q tabs rfl rfl rfl rfl ?_
              | refine DW_nil ?_
              | refine DW_R tabOK rfl rfl rfl rfl rfl ?_
              | refine DW_E tabOK rfl rfl rfl rfl rfl ?_
              | refine DW_E0 tabOK rfl rfl rfl rfl rfl ?_
              | refine DW_no rfl rfl rfl ?_
              | refine DW_no0 rfl rfl rfl ?_
              | refine DW_lits tabOK rfl rfl rfl rfl rfl rfl rfl rfl rfl rfl rfl rfl rfl ?_
              | refine DW_append_own tabOK rfl rfl rfl rfl rfl rfl rfl rfl rfl rfl rfl rfl rfl rfl rfl (by simp; omega) (by simp; omega) ?_)
            | (show W _ _ _ _ _ _; first
              | refine W_seq ?_
              | refine W_text rfl (fun _ _ _ h => h) ?_
              | refine W_block ?_
              | refine W_skip ?_
              | refine W_exit ?_
              | refine W_ret ?_
              | refine W_true rfl ?_
              | refine W_false rfl ?_
              | refine W_cond rfl (fun _ => ?_) (fun _ => ?_)))
      refine DW_pure rfl rfl rfl rfl rfl (eq30_ok a.chunks b.chunks _ _ ha) ?_
      repeat' (first
            | (show DW _ _ _ _ _ _ _ _; first
              | refine DW_Q tabs rfl rfl rfl rfl ?_
              | refine DW_nil ?_
              | refine DW_R tabOK rfl rfl rfl rfl rfl ?_
              | refine DW_E tabOK rfl rfl rfl rfl rfl ?_
              | refine DW_E0 tabOK rfl rfl rfl rfl rfl ?_
              | refine DW_no rfl rfl rfl ?_
              | refine DW_no0 rfl rfl rfl ?_
              | refine DW_lits tabOK rfl rfl rfl rfl rfl rfl rfl rfl rfl rfl rfl rfl rfl ?_
              | refine DW_append_own tabOK rfl rfl rfl rfl rfl rfl rfl rfl rfl rfl rfl rfl rfl rfl rfl (by simp; omega) (by simp; omega) ?_)
            | (show W _ _ _ _ _ _; first
              | refine W_seq ?_
              | refine W_text rfl (fun _ _ _ h => h) ?_
              | refine W_block ?_
              | refine W_skip ?_
              | refine W_exit ?_
              | refine W_ret ?_
              | refine W_true rfl ?_
              | refine W_false rfl ?_
              | refine W_cond rfl (fun _ => ?_) (fun _ => ?_)))
      exact ⟨rfl, _, rfl, rfl, rfl⟩

theorem path17_ok (l : List En) (t : Tag) (i : Nat) (e : En) (he : l[i]? = some e) : APure Try.prog 17 [.int .i64 i, .ref [.sl 5 (l.map En.av) t]] (.str e.path) := by
  intro M
  refine acalls_of tabOK Try.func17 rfl (by decide) (by simp [Try.f17]) ?_
  repeat' (first
        | (show DW _ _ _ _ _ _ _ _; first
          | refine DW_Q tabs rfl rfl rfl rfl ?_
          | refine DW_nil ?_
          | refine DW_R tabOK rfl rfl rfl rfl rfl ?_
          | refine DW_E tabOK rfl rfl rfl rfl rfl ?_
          | refine DW_E0 tabOK rfl rfl rfl rfl rfl ?_
          | refine DW_no rfl rfl rfl ?_
          | refine DW_no0 rfl rfl rfl ?_
          | refine DW_lits tabOK rfl rfl rfl rfl rfl rfl rfl rfl rfl rfl rfl rfl rfl ?_
          | refine DW_append_own tabOK rfl rfl rfl rfl rfl rfl rfl rfl rfl rfl rfl rfl rfl rfl rfl (by simp; omega) (by simp; omega) ?_)
        | (show W _ _ _ _ _ _; first
          | refine W_seq ?_
          | refine W_text rfl (fun _ _ _ h => h) ?_
          | refine W_block ?_
          | refine W_skip ?_
          | refine W_exit ?_
          | refine W_ret ?_
          | refine W_true rfl ?_
          | refine W_false rfl ?_
          | refine W_cond rfl (fun _ => ?_) (fun _ => ?_)))
  refine DW_index tabOK rfl rfl rfl rfl rfl rfl rfl rfl rfl rfl (Int.natCast_nonneg _) (map_get he) ?_
  repeat' (first
        | (show DW _ _ _ _ _ _ _ _; first
          | refine DW_Q tabs rfl rfl rfl rfl ?_
          | refine DW_nil ?_
          | refine DW_R tabOK rfl rfl rfl rfl rfl ?_
          | refine DW_E tabOK rfl rfl rfl rfl rfl ?_
          | refine DW_E0 tabOK rfl rfl rfl rfl rfl ?_
          | refine DW_no rfl rfl rfl ?_
          | refine DW_no0 rfl rfl rfl ?_
          | refine DW_lits tabOK rfl rfl rfl rfl rfl rfl rfl rfl rfl rfl rfl rfl rfl ?_
          | refine DW_append_own tabOK rfl rfl rfl rfl rfl rfl rfl rfl rfl rfl rfl rfl rfl rfl rfl (by simp; omega) (by simp; omega) ?_)
        | (show W _ _ _ _ _ _; first
          | refine W_seq ?_
          | refine W_text rfl (fun _ _ _ h => h) ?_
          | refine W_block ?_
          | refine W_skip ?_
          | refine W_exit ?_
          | refine W_ret ?_
          | refine W_true rfl ?_
          | refine W_false rfl ?_
          | refine W_cond rfl (fun _ => ?_) (fun _ => ?_)))
  exact ⟨rfl, _, rfl, rfl, rfl⟩
theorem path18_ok (l : List En) (t : Tag) (i : Nat) (e : En) (he : l[i]? = some e) : APure Try.prog 18 [.int .i64 i, .ref [.sl 5 (l.map En.av) t]] (.str e.path) := by
  intro M
  refine acalls_of tabOK Try.func18 rfl (by decide) (by simp [Try.f18]) ?_
  repeat' (first
        | (show DW _ _ _ _ _ _ _ _; first
          | refine DW_Q tabs rfl rfl rfl rfl ?_
          | refine DW_nil ?_
          | refine DW_R tabOK rfl rfl rfl rfl rfl ?_
          | refine DW_E tabOK rfl rfl rfl rfl rfl ?_
          | refine DW_E0 tabOK rfl rfl rfl rfl rfl ?_
          | refine DW_no rfl rfl rfl ?_
          | refine DW_no0 rfl rfl rfl ?_
          | refine DW_lits tabOK rfl rfl rfl rfl rfl rfl rfl rfl rfl rfl rfl rfl rfl ?_
          | refine DW_append_own tabOK rfl rfl rfl rfl rfl rfl rfl rfl rfl rfl rfl rfl rfl rfl rfl (by simp; omega) (by simp; omega) ?_)
        | (show W _ _ _ _ _ _; first
          | refine W_seq ?_
          | refine W_text rfl (fun _ _ _ h => h) ?_
          | refine W_block ?_
          | refine W_skip ?_
          | refine W_exit ?_
          | refine W_ret ?_
          | refine W_true rfl ?_
          | refine W_false rfl ?_
          | refine W_cond rfl (fun _ => ?_) (fun _ => ?_)))
  refine DW_index tabOK rfl rfl rfl rfl rfl rfl rfl rfl rfl rfl (Int.natCast_nonneg _) (map_get he) ?_
  repeat' (first
        | (show DW _ _ _ _ _ _ _ _; first
          | refine DW_Q tabs rfl rfl rfl rfl ?_
          | refine DW_nil ?_
          | refine DW_R tabOK rfl rfl rfl rfl rfl ?_
          | refine DW_E tabOK rfl rfl rfl rfl rfl ?_
          | refine DW_E0 tabOK rfl rfl rfl rfl rfl ?_
          | refine DW_no rfl rfl rfl ?_
          | refine DW_no0 rfl rfl rfl ?_
          | refine DW_lits tabOK rfl rfl rfl rfl rfl rfl rfl rfl rfl rfl rfl rfl rfl ?_
          | refine DW_append_own tabOK rfl rfl rfl rfl rfl rfl rfl rfl rfl rfl rfl rfl rfl rfl rfl (by simp; omega) (by simp; omega) ?_)
        | (show W _ _ _ _ _ _; first
          | refine W_seq ?_
          | refine W_text rfl (fun _ _ _ h => h) ?_
          | refine W_block ?_
          | refine W_skip ?_
          | refine W_exit ?_
          | refine W_ret ?_
          | refine W_true rfl ?_
          | refine W_false rfl ?_
          | refine W_cond rfl (fun _ => ?_) (fun _ => ?_)))
  exact ⟨rfl, _, rfl, rfl, rfl⟩
theorem path25_ok (l : List Dl) (t : Tag) (i : Nat) (e : Dl) (he : l[i]? = some e) : APure Try.prog 25 [.int .i64 i, .ref [.sl 2 (l.map Dl.av) t]] (.str e.path) := by
  intro M
  refine acalls_of tabOK Try.func25 rfl (by decide) (by simp [Try.f25]) ?_
  repeat' (first
        | (show DW _ _ _ _ _ _ _ _; first
          | refine DW_Q tabs rfl rfl rfl rfl ?_
          | refine DW_nil ?_
          | refine DW_R tabOK rfl rfl rfl rfl rfl ?_
          | refine DW_E tabOK rfl rfl rfl rfl rfl ?_
          | refine DW_E0 tabOK rfl rfl rfl rfl rfl ?_
          | refine DW_no rfl rfl rfl ?_
          | refine DW_no0 rfl rfl rfl ?_
          | refine DW_lits tabOK rfl rfl rfl rfl rfl rfl rfl rfl rfl rfl rfl rfl rfl ?_
          | refine DW_append_own tabOK rfl rfl rfl rfl rfl rfl rfl rfl rfl rfl rfl rfl rfl rfl rfl (by simp; omega) (by simp; omega) ?_)
        | (show W _ _ _ _ _ _; first
          | refine W_seq ?_
          | refine W_text rfl (fun _ _ _ h => h) ?_
          | refine W_block ?_
          | refine W_skip ?_
          | refine W_exit ?_
          | refine W_ret ?_
          | refine W_true rfl ?_
          | refine W_false rfl ?_
          | refine W_cond rfl (fun _ => ?_) (fun _ => ?_)))
  refine DW_index tabOK rfl rfl rfl rfl rfl rfl rfl rfl rfl rfl (Int.natCast_nonneg _) (map_get he) ?_
  repeat' (first
        | (show DW _ _ _ _ _ _ _ _; first
          | refine DW_Q tabs rfl rfl rfl rfl ?_
          | refine DW_nil ?_
          | refine DW_R tabOK rfl rfl rfl rfl rfl ?_
          | refine DW_E tabOK rfl rfl rfl rfl rfl ?_
          | refine DW_E0 tabOK rfl rfl rfl rfl rfl ?_
          | refine DW_no rfl rfl rfl ?_
          | refine DW_no0 rfl rfl rfl ?_
          | refine DW_lits tabOK rfl rfl rfl rfl rfl rfl rfl rfl rfl rfl rfl rfl rfl ?_
          | refine DW_append_own tabOK rfl rfl rfl rfl rfl rfl rfl rfl rfl rfl rfl rfl rfl rfl rfl (by simp; omega) (by simp; omega) ?_)
        | (show W _ _ _ _ _ _; first
          | refine W_seq ?_
          | refine W_text rfl (fun _ _ _ h => h) ?_
          | refine W_block ?_
          | refine W_skip ?_
          | refine W_exit ?_
          | refine W_ret ?_
          | refine W_true rfl ?_
          | refine W_false rfl ?_
          | refine W_cond rfl (fun _ => ?_) (fun _ => ?_)))
  exact ⟨rfl, _, rfl, rfl, rfl⟩
theorem path26_ok (l : List Dl) (t : Tag) (i : Nat) (e : Dl) (he : l[i]? = some e) : APure Try.prog 26 [.int .i64 i, .ref [.sl 2 (l.map Dl.av) t]] (.str e.path) := by
  intro M
  refine acalls_of tabOK Try.func26 rfl (by decide) (by simp [Try.f26]) ?_
  repeat' (first
        | (show DW _ _ _ _ _ _ _ _; first
          | refine DW_Q tabs rfl rfl rfl rfl ?_
          | refine DW_nil ?_
          | refine DW_R tabOK rfl rfl rfl rfl rfl ?_
          | refine DW_E tabOK rfl rfl rfl rfl rfl ?_
          | refine DW_E0 tabOK rfl rfl rfl rfl rfl ?_
          | refine DW_no rfl rfl rfl ?_
          | refine DW_no0 rfl rfl rfl ?_
          | refine DW_lits tabOK rfl rfl rfl rfl rfl rfl rfl rfl rfl rfl rfl rfl rfl ?_
          | refine DW_append_own tabOK rfl rfl rfl rfl rfl rfl rfl rfl rfl rfl rfl rfl rfl rfl rfl (by simp; omega) (by simp; omega) ?_)
        | (show W _ _ _ _ _ _; first
          | refine W_seq ?_
          | refine W_text rfl (fun _ _ _ h => h) ?_
          | refine W_block ?_
          | refine W_skip ?_
          | refine W_exit ?_
          | refine W_ret ?_
          | refine W_true rfl ?_
          | refine W_false rfl ?_
          | refine W_cond rfl (fun _ => ?_) (fun _ => ?_)))
  refine DW_index tabOK rfl rfl rfl rfl rfl rfl rfl rfl rfl rfl (Int.natCast_nonneg _) (map_get he) ?_
  repeat' (first
        | (show DW _ _ _ _ _ _ _ _; first
          | refine DW_Q tabs rfl rfl rfl rfl ?_
          | refine DW_nil ?_
          | refine DW_R tabOK rfl rfl rfl rfl rfl ?_
          | refine DW_E tabOK rfl rfl rfl rfl rfl ?_
          | refine DW_E0 tabOK rfl rfl rfl rfl rfl ?_
          | refine DW_no rfl rfl rfl ?_
          | refine DW_no0 rfl rfl rfl ?_
          | refine DW_lits tabOK rfl rfl rfl rfl rfl rfl rfl rfl rfl rfl rfl rfl rfl ?_
          | refine DW_append_own tabOK rfl rfl rfl rfl rfl rfl rfl rfl rfl rfl rfl rfl rfl rfl rfl (by simp; omega) (by simp; omega) ?_)
        | (show W _ _ _ _ _ _; first
          | refine W_seq ?_
          | refine W_text rfl (fun _ _ _ h => h) ?_
          | refine W_block ?_
          | refine W_skip ?_
          | refine W_exit ?_
          | refine W_ret ?_
          | refine W_true rfl ?_
          | refine W_false rfl ?_
          | refine W_cond rfl (fun _ => ?_) (fun _ => ?_)))
  exact ⟨rfl, _, rfl, rfl, rfl⟩
end Go.Proofs.Yteimhnedflbkmaa
