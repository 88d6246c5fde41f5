/- Which texts are names, and which are paths. No further condition. -/
import Derived.Test.YteimhnedflbkmaaDoorLibA
set_option linter.unusedVariables false
set_option linter.unusedSimpArgs false
namespace Go.Proofs.YteimhnedflbkmaaDoor
open Go.Ab

def isNameB (s : Bytes) : Bool := !(s == []) && decide (s.length ≤ 30) && !(s == [46]) && !(s == [46, 46]) && !(s.any fun b => b == 47 || b == 0)

theorem isName_ok (s : Bytes) (hs : s.length < 4294967281) : APure Tryd.prog 48 [.str s] (.bool (isNameB s)) := by
  intro M
  refine acalls_of tabOK Tryd.func48 rfl (by decide) (by simp [Tryd.f48]) ?_
  have k := any470_ok s hs
  unfold isNameB
  cases h1 : s == []
  · have n1 : (!(s == [])) = true := by rw [h1]; rfl
    cases h2 : decide (s.length ≤ 30)
    · have d2 : decide ((s.length : Int) ≤ 30) = false := by
        simp at h2 ⊢
        omega
      repeat' (first | (show DW _ _ _ _ _ _ _ _; first | refine DW_V tabs rfl rfl rfl rfl (congrArg AV.bool n1) ?_ | refine DW_V tabs rfl rfl rfl rfl (congrArg AV.bool d2) ?_ | refine DW_A tabs rfl ?_ | refine DW_nil ?_ | refine DW_lits tabOK rfl rfl rfl rfl rfl rfl rfl rfl rfl rfl rfl rfl rfl ?_ | refine DW_append_own tabOK rfl rfl rfl rfl rfl rfl rfl rfl rfl rfl rfl rfl rfl rfl rfl (by simp; omega) (by simp; omega) ?_) | (show W _ _ _ _ _ _; first | refine W_seq ?_ | refine W_text rfl (fun _ _ _ h => h) ?_ | refine W_block ?_ | refine W_skip ?_ | refine W_exit ?_ | refine W_ret ?_ | refine W_true rfl ?_ | refine W_false rfl ?_ | refine W_cond rfl (fun _ => ?_) (fun _ => ?_)))
      exact ⟨rfl, _, rfl, rfl, rfl⟩
    · have d2 : decide ((s.length : Int) ≤ 30) = true := by
        simp at h2 ⊢
        omega
      cases h3 : s == [46]
      · have n3 : (!(s == [46])) = true := by rw [h3]; rfl
        cases h4 : s == [46, 46]
        · have n4 : (!(s == [46, 46])) = true := by rw [h4]; rfl
          repeat' (first | (show DW _ _ _ _ _ _ _ _; first | refine DW_V tabs rfl rfl rfl rfl (congrArg AV.bool n1) ?_ | refine DW_V tabs rfl rfl rfl rfl (congrArg AV.bool d2) ?_ | refine DW_V tabs rfl rfl rfl rfl (congrArg AV.bool n3) ?_ | refine DW_V tabs rfl rfl rfl rfl (congrArg AV.bool n4) ?_ | refine DW_A tabs rfl ?_ | refine DW_nil ?_ | refine DW_lits tabOK rfl rfl rfl rfl rfl rfl rfl rfl rfl rfl rfl rfl rfl ?_ | refine DW_append_own tabOK rfl rfl rfl rfl rfl rfl rfl rfl rfl rfl rfl rfl rfl rfl rfl (by simp; omega) (by simp; omega) ?_) | (show W _ _ _ _ _ _; first | refine W_seq ?_ | refine W_text rfl (fun _ _ _ h => h) ?_ | refine W_block ?_ | refine W_skip ?_ | refine W_exit ?_ | refine W_ret ?_ | refine W_true rfl ?_ | refine W_false rfl ?_ | refine W_cond rfl (fun _ => ?_) (fun _ => ?_)))
          refine DW_pure rfl rfl rfl rfl rfl k ?_
          repeat' (first | (show DW _ _ _ _ _ _ _ _; first | refine DW_A tabs rfl ?_ | refine DW_nil ?_ | refine DW_lits tabOK rfl rfl rfl rfl rfl rfl rfl rfl rfl rfl rfl rfl rfl ?_ | refine DW_append_own tabOK rfl rfl rfl rfl rfl rfl rfl rfl rfl rfl rfl rfl rfl rfl rfl (by simp; omega) (by simp; omega) ?_) | (show W _ _ _ _ _ _; first | refine W_seq ?_ | refine W_text rfl (fun _ _ _ h => h) ?_ | refine W_block ?_ | refine W_skip ?_ | refine W_exit ?_ | refine W_ret ?_ | refine W_true rfl ?_ | refine W_false rfl ?_ | refine W_cond rfl (fun _ => ?_) (fun _ => ?_)))
          exact ⟨rfl, _, rfl, rfl, rfl⟩
        · have n4 : (!(s == [46, 46])) = false := by rw [h4]; rfl
          repeat' (first | (show DW _ _ _ _ _ _ _ _; first | refine DW_V tabs rfl rfl rfl rfl (congrArg AV.bool n1) ?_ | refine DW_V tabs rfl rfl rfl rfl (congrArg AV.bool d2) ?_ | refine DW_V tabs rfl rfl rfl rfl (congrArg AV.bool n3) ?_ | refine DW_V tabs rfl rfl rfl rfl (congrArg AV.bool n4) ?_ | refine DW_A tabs rfl ?_ | refine DW_nil ?_ | refine DW_lits tabOK rfl rfl rfl rfl rfl rfl rfl rfl rfl rfl rfl rfl rfl ?_ | refine DW_append_own tabOK rfl rfl rfl rfl rfl rfl rfl rfl rfl rfl rfl rfl rfl rfl rfl (by simp; omega) (by simp; omega) ?_) | (show W _ _ _ _ _ _; first | refine W_seq ?_ | refine W_text rfl (fun _ _ _ h => h) ?_ | refine W_block ?_ | refine W_skip ?_ | refine W_exit ?_ | refine W_ret ?_ | refine W_true rfl ?_ | refine W_false rfl ?_ | refine W_cond rfl (fun _ => ?_) (fun _ => ?_)))
          exact ⟨rfl, _, rfl, rfl, rfl⟩
      · have n3 : (!(s == [46])) = false := by rw [h3]; rfl
        repeat' (first | (show DW _ _ _ _ _ _ _ _; first | refine DW_V tabs rfl rfl rfl rfl (congrArg AV.bool n1) ?_ | refine DW_V tabs rfl rfl rfl rfl (congrArg AV.bool d2) ?_ | refine DW_V tabs rfl rfl rfl rfl (congrArg AV.bool n3) ?_ | refine DW_A tabs rfl ?_ | refine DW_nil ?_ | refine DW_lits tabOK rfl rfl rfl rfl rfl rfl rfl rfl rfl rfl rfl rfl rfl ?_ | refine DW_append_own tabOK rfl rfl rfl rfl rfl rfl rfl rfl rfl rfl rfl rfl rfl rfl rfl (by simp; omega) (by simp; omega) ?_) | (show W _ _ _ _ _ _; first | refine W_seq ?_ | refine W_text rfl (fun _ _ _ h => h) ?_ | refine W_block ?_ | refine W_skip ?_ | refine W_exit ?_ | refine W_ret ?_ | refine W_true rfl ?_ | refine W_false rfl ?_ | refine W_cond rfl (fun _ => ?_) (fun _ => ?_)))
        exact ⟨rfl, _, rfl, rfl, rfl⟩
  · have n1 : (!(s == [])) = false := by rw [h1]; rfl
    repeat' (first | (show DW _ _ _ _ _ _ _ _; first | refine DW_V tabs rfl rfl rfl rfl (congrArg AV.bool n1) ?_ | refine DW_A tabs rfl ?_ | refine DW_nil ?_ | refine DW_lits tabOK rfl rfl rfl rfl rfl rfl rfl rfl rfl rfl rfl rfl rfl ?_ | refine DW_append_own tabOK rfl rfl rfl rfl rfl rfl rfl rfl rfl rfl rfl rfl rfl rfl rfl (by simp; omega) (by simp; omega) ?_) | (show W _ _ _ _ _ _; first | refine W_seq ?_ | refine W_text rfl (fun _ _ _ h => h) ?_ | refine W_block ?_ | refine W_skip ?_ | refine W_exit ?_ | refine W_ret ?_ | refine W_true rfl ?_ | refine W_false rfl ?_ | refine W_cond rfl (fun _ => ?_) (fun _ => ?_)))
    exact ⟨rfl, _, rfl, rfl, rfl⟩

def isPathB (s : Bytes) : Bool := s == [] || ((splitOn 47 s).all isNameB && decide (s.length ≤ 100))

theorem splitOn_len (c : UInt8) : ∀ s : Bytes, (splitOn c s).length ≤ s.length + 1 ∧ ∀ p, p ∈ splitOn c s → p.length ≤ s.length
  | [] => ⟨by simp [splitOn], by simp [splitOn]⟩
  | b :: l => by
    have ih := splitOn_len c l
    unfold splitOn
    split
    · refine ⟨by simp; omega, fun p hp => ?_⟩
      rcases List.mem_cons.1 hp with rfl | hp
      · simp
      · have := ih.2 p hp
        simp; omega
    · split
      · simp
      · rename_i p r hr
        rw [hr] at ih
        refine ⟨by simp at ih ⊢; omega, fun q hq => ?_⟩
        rcases List.mem_cons.1 hq with rfl | hq
        · have := ih.2 p (by simp)
          simp; omega
        · have := ih.2 q (by simp [hq])
          simp; omega

theorem isPath_ok (s : Bytes) (hs : s.length < 4294967281) : APure Tryd.prog 31 [.str s] (.bool (isPathB s)) := by
  intro M
  refine acalls_of tabOK Tryd.func31 rfl (by decide) (by simp [Tryd.f31]) ?_
  have k := split47_ok s hs
  have kl := splitOn_len 47 s
  unfold isPathB
  cases h1 : s == []
  · generalize splitOn 47 s = l at k kl
    have la : ((l.map AV.str).length : Int) = (l.length : Int) := by simp
    repeat' (first | (show DW _ _ _ _ _ _ _ _; first | refine DW_V tabs rfl rfl rfl rfl (congrArg AV.bool h1) ?_ | refine DW_A tabs rfl ?_ | refine DW_nil ?_ | refine DW_lits tabOK rfl rfl rfl rfl rfl rfl rfl rfl rfl rfl rfl rfl rfl ?_ | refine DW_append_own tabOK rfl rfl rfl rfl rfl rfl rfl rfl rfl rfl rfl rfl rfl rfl rfl (by simp; omega) (by simp; omega) ?_) | (show W _ _ _ _ _ _; first | refine W_seq ?_ | refine W_text rfl (fun _ _ _ h => h) ?_ | refine W_block ?_ | refine W_skip ?_ | refine W_exit ?_ | refine W_ret ?_ | refine W_true rfl ?_ | refine W_false rfl ?_ | refine W_cond rfl (fun _ => ?_) (fun _ => ?_)))
    refine DW_pure rfl rfl rfl rfl rfl k ?_
    repeat' (first | (show DW _ _ _ _ _ _ _ _; first | refine DW_V tabs rfl rfl rfl rfl (congrArg (AV.int _) la) ?_ | refine DW_A tabs rfl ?_ | refine DW_nil ?_ | refine DW_lits tabOK rfl rfl rfl rfl rfl rfl rfl rfl rfl rfl rfl rfl rfl ?_ | refine DW_append_own tabOK rfl rfl rfl rfl rfl rfl rfl rfl rfl rfl rfl rfl rfl rfl rfl (by simp; omega) (by simp; omega) ?_) | (show W _ _ _ _ _ _; first | refine W_seq ?_ | refine W_text rfl (fun _ _ _ h => h) ?_ | refine W_block ?_ | refine W_skip ?_ | refine W_exit ?_ | refine W_ret ?_ | refine W_true rfl ?_ | refine W_false rfl ?_ | refine W_cond rfl (fun _ => ?_) (fun _ => ?_)))
    refine W_count l.length (fun i f N => N = M ∧ (l.take i).all isNameB = true ∧ f = ⟨[(0, .str s), (8, .sl 1 (l.map AV.str) .none), (9, .int .i64 (l.length : Int)), (10, .int .i64 (i : Int))], []⟩) (Nat.zero_le _) ⟨rfl, by simp, rfl⟩ (Joint.le ?_ (Mem.le_refl _)) ?_
    · skip
      repeat (refine AF.le_cons rfl ?_)
      exact AF.le_nil rfl
    · rintro i f N hi ⟨rfl, hpre, rfl⟩
      by_cases h2 : i < l.length
      · have d1 : decide ((i : Int) < (l.length : Int)) = true := by simp; omega
        have hx : l[i]? = some l[i] := List.getElem?_eq_getElem h2
        have fi := wrap_succ (i := i) (by omega)
        have ht := take_succ hx
        generalize l[i] = e at hx ht
        have he := kl.2 e (List.mem_of_getElem? hx)
        have ke := isName_ok e (by omega)
        cases h3 : isNameB e
        · have hall : l.all isNameB = false := List.all_eq_false.2 ⟨e, List.mem_of_getElem? hx, by simp [h3]⟩
          rw [h3] at ke
          rw [hall]
          repeat' (first | (show DW _ _ _ _ _ _ _ _; first | refine DW_V tabs rfl rfl rfl rfl (congrArg AV.bool d1) ?_ | refine DW_V tabs rfl rfl rfl rfl (congrArg (AV.int _) la) ?_ | refine DW_V tabs rfl rfl rfl rfl (congrArg (AV.int _) fi) ?_ | refine DW_A tabs rfl ?_ | refine DW_nil ?_ | refine DW_lits tabOK rfl rfl rfl rfl rfl rfl rfl rfl rfl rfl rfl rfl rfl ?_ | refine DW_append_own tabOK rfl rfl rfl rfl rfl rfl rfl rfl rfl rfl rfl rfl rfl rfl rfl (by simp; omega) (by simp; omega) ?_) | (show W _ _ _ _ _ _; first | refine W_seq ?_ | refine W_text rfl (fun _ _ _ h => h) ?_ | refine W_block ?_ | refine W_skip ?_ | refine W_exit ?_ | refine W_ret ?_ | refine W_true rfl ?_ | refine W_false rfl ?_ | refine W_cond rfl (fun _ => ?_) (fun _ => ?_)))
          refine DW_index tabOK rfl rfl rfl rfl rfl rfl rfl rfl rfl rfl (Int.natCast_nonneg _) (map_get hx) ?_
          repeat' (first | (show DW _ _ _ _ _ _ _ _; first | refine DW_V tabs rfl rfl rfl rfl (congrArg AV.bool d1) ?_ | refine DW_V tabs rfl rfl rfl rfl (congrArg (AV.int _) la) ?_ | refine DW_V tabs rfl rfl rfl rfl (congrArg (AV.int _) fi) ?_ | refine DW_A tabs rfl ?_ | refine DW_nil ?_ | refine DW_lits tabOK rfl rfl rfl rfl rfl rfl rfl rfl rfl rfl rfl rfl rfl ?_ | refine DW_append_own tabOK rfl rfl rfl rfl rfl rfl rfl rfl rfl rfl rfl rfl rfl rfl rfl (by simp; omega) (by simp; omega) ?_) | (show W _ _ _ _ _ _; first | refine W_seq ?_ | refine W_text rfl (fun _ _ _ h => h) ?_ | refine W_block ?_ | refine W_skip ?_ | refine W_exit ?_ | refine W_ret ?_ | refine W_true rfl ?_ | refine W_false rfl ?_ | refine W_cond rfl (fun _ => ?_) (fun _ => ?_)))
          refine DW_pure rfl rfl rfl rfl rfl ke ?_
          repeat' (first | (show DW _ _ _ _ _ _ _ _; first | refine DW_V tabs rfl rfl rfl rfl (congrArg (AV.int _) la) ?_ | refine DW_V tabs rfl rfl rfl rfl (congrArg (AV.int _) fi) ?_ | refine DW_A tabs rfl ?_ | refine DW_nil ?_ | refine DW_lits tabOK rfl rfl rfl rfl rfl rfl rfl rfl rfl rfl rfl rfl rfl ?_ | refine DW_append_own tabOK rfl rfl rfl rfl rfl rfl rfl rfl rfl rfl rfl rfl rfl rfl rfl (by simp; omega) (by simp; omega) ?_) | (show W _ _ _ _ _ _; first | refine W_seq ?_ | refine W_text rfl (fun _ _ _ h => h) ?_ | refine W_block ?_ | refine W_skip ?_ | refine W_exit ?_ | refine W_ret ?_ | refine W_true rfl ?_ | refine W_false rfl ?_ | refine W_cond rfl (fun _ => ?_) (fun _ => ?_)))
          exact ⟨rfl, _, rfl, rfl, rfl⟩
        · rw [h3] at ke
          repeat' (first | (show DW _ _ _ _ _ _ _ _; first | refine DW_V tabs rfl rfl rfl rfl (congrArg AV.bool d1) ?_ | refine DW_V tabs rfl rfl rfl rfl (congrArg (AV.int _) la) ?_ | refine DW_V tabs rfl rfl rfl rfl (congrArg (AV.int _) fi) ?_ | refine DW_A tabs rfl ?_ | refine DW_nil ?_ | refine DW_lits tabOK rfl rfl rfl rfl rfl rfl rfl rfl rfl rfl rfl rfl rfl ?_ | refine DW_append_own tabOK rfl rfl rfl rfl rfl rfl rfl rfl rfl rfl rfl rfl rfl rfl rfl (by simp; omega) (by simp; omega) ?_) | (show W _ _ _ _ _ _; first | refine W_seq ?_ | refine W_text rfl (fun _ _ _ h => h) ?_ | refine W_block ?_ | refine W_skip ?_ | refine W_exit ?_ | refine W_ret ?_ | refine W_true rfl ?_ | refine W_false rfl ?_ | refine W_cond rfl (fun _ => ?_) (fun _ => ?_)))
          refine DW_index tabOK rfl rfl rfl rfl rfl rfl rfl rfl rfl rfl (Int.natCast_nonneg _) (map_get hx) ?_
          repeat' (first | (show DW _ _ _ _ _ _ _ _; first | refine DW_V tabs rfl rfl rfl rfl (congrArg AV.bool d1) ?_ | refine DW_V tabs rfl rfl rfl rfl (congrArg (AV.int _) la) ?_ | refine DW_V tabs rfl rfl rfl rfl (congrArg (AV.int _) fi) ?_ | refine DW_A tabs rfl ?_ | refine DW_nil ?_ | refine DW_lits tabOK rfl rfl rfl rfl rfl rfl rfl rfl rfl rfl rfl rfl rfl ?_ | refine DW_append_own tabOK rfl rfl rfl rfl rfl rfl rfl rfl rfl rfl rfl rfl rfl rfl rfl (by simp; omega) (by simp; omega) ?_) | (show W _ _ _ _ _ _; first | refine W_seq ?_ | refine W_text rfl (fun _ _ _ h => h) ?_ | refine W_block ?_ | refine W_skip ?_ | refine W_exit ?_ | refine W_ret ?_ | refine W_true rfl ?_ | refine W_false rfl ?_ | refine W_cond rfl (fun _ => ?_) (fun _ => ?_)))
          refine DW_pure rfl rfl rfl rfl rfl ke ?_
          repeat' (first | (show DW _ _ _ _ _ _ _ _; first | refine DW_V tabs rfl rfl rfl rfl (congrArg (AV.int _) la) ?_ | refine DW_V tabs rfl rfl rfl rfl (congrArg (AV.int _) fi) ?_ | refine DW_A tabs rfl ?_ | refine DW_nil ?_ | refine DW_lits tabOK rfl rfl rfl rfl rfl rfl rfl rfl rfl rfl rfl rfl rfl ?_ | refine DW_append_own tabOK rfl rfl rfl rfl rfl rfl rfl rfl rfl rfl rfl rfl rfl rfl rfl (by simp; omega) (by simp; omega) ?_) | (show W _ _ _ _ _ _; first | refine W_seq ?_ | refine W_text rfl (fun _ _ _ h => h) ?_ | refine W_block ?_ | refine W_skip ?_ | refine W_exit ?_ | refine W_ret ?_ | refine W_true rfl ?_ | refine W_false rfl ?_ | refine W_cond rfl (fun _ => ?_) (fun _ => ?_)))
          refine ⟨h2, _, _, ⟨rfl, ?_, rfl⟩, Joint.le ?_ (Mem.le_refl _)⟩
          · rw [ht, List.all_append, hpre]
            simp [h3]
          · skip
            repeat (refine AF.le_cons rfl ?_)
            exact AF.le_nil rfl
      · have d1 : decide ((i : Int) < (l.length : Int)) = false := by simp; omega
        have hl2 : l.take i = l := List.take_of_length_le (by omega)
        rw [hl2] at hpre
        rw [hpre]
        repeat' (first | (show DW _ _ _ _ _ _ _ _; first | refine DW_V tabs rfl rfl rfl rfl (congrArg AV.bool d1) ?_ | refine DW_V tabs rfl rfl rfl rfl (congrArg (AV.int _) la) ?_ | refine DW_A tabs rfl ?_ | refine DW_nil ?_ | refine DW_lits tabOK rfl rfl rfl rfl rfl rfl rfl rfl rfl rfl rfl rfl rfl ?_ | refine DW_append_own tabOK rfl rfl rfl rfl rfl rfl rfl rfl rfl rfl rfl rfl rfl rfl rfl (by simp; omega) (by simp; omega) ?_) | (show W _ _ _ _ _ _; first | refine W_seq ?_ | refine W_text rfl (fun _ _ _ h => h) ?_ | refine W_block ?_ | refine W_skip ?_ | refine W_exit ?_ | refine W_ret ?_ | refine W_true rfl ?_ | refine W_false rfl ?_ | refine W_cond rfl (fun _ => ?_) (fun _ => ?_)))
        exact ⟨rfl, _, rfl, ret_bool (by rw [Bool.true_and, Bool.false_or]; exact decide_eq_decide.2 (by omega)), rfl⟩
  · repeat' (first | (show DW _ _ _ _ _ _ _ _; first | refine DW_V tabs rfl rfl rfl rfl (congrArg AV.bool h1) ?_ | refine DW_A tabs rfl ?_ | refine DW_nil ?_ | refine DW_lits tabOK rfl rfl rfl rfl rfl rfl rfl rfl rfl rfl rfl rfl rfl ?_ | refine DW_append_own tabOK rfl rfl rfl rfl rfl rfl rfl rfl rfl rfl rfl rfl rfl rfl rfl (by simp; omega) (by simp; omega) ?_) | (show W _ _ _ _ _ _; first | refine W_seq ?_ | refine W_text rfl (fun _ _ _ h => h) ?_ | refine W_block ?_ | refine W_skip ?_ | refine W_exit ?_ | refine W_ret ?_ | refine W_true rfl ?_ | refine W_false rfl ?_ | refine W_cond rfl (fun _ => ?_) (fun _ => ?_)))
    exact ⟨rfl, _, rfl, rfl, rfl⟩
end Go.Proofs.YteimhnedflbkmaaDoor
