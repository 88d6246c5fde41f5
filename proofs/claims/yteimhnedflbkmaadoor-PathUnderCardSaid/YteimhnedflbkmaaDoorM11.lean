/- Parts of the proof, one behind the other: PathJ, RefPathC. No further condition. -/
import Derived.Test.YteimhnedflbkmaaDoorM10
set_option linter.unusedVariables false
set_option linter.unusedSimpArgs false
/- path.Join, Parent, Base and Depth tell what their texts say. No further condition. -/
set_option linter.unusedVariables false
set_option linter.unusedSimpArgs false
namespace Go.Proofs.YteimhnedflbkmaaDoor
open Go.Ab

def joinB (d s : Bytes) : Bytes × Int := if isPathB d = true then normB (d ++ 47 :: s) else ([], 20)

set_option maxRecDepth 100000 in
theorem pJoin_ok (d s : Bytes) (hd : d.length < 100000) (hs : s.length < 100000) : APure Tryd.prog 40 [.str d, .str s] (pairA (joinB d s)) := by
  intro M
  refine acalls_of tabOK Tryd.func40 rfl (by decide) (by simp [Tryd.f40]) ?_
  have k1 := isPath_ok d (by omega)
  have k2 := norm_ok (d ++ [47] ++ s) (by simp; omega)
  unfold joinB
  have e : d ++ 47 :: s = d ++ [47] ++ s := by simp
  rw [e]
  cases h : isPathB d
  · rw [h] at k1
    repeat' (first | (show DW _ _ _ _ _ _ _ _; first | refine DW_A tabs rfl ?_ | refine DW_nil ?_ | refine DW_lits tabOK rfl rfl rfl rfl rfl rfl rfl rfl rfl rfl rfl rfl rfl ?_ | refine DW_pure rfl rfl rfl rfl rfl k1 ?_ | refine DW_append_own tabOK rfl rfl rfl rfl rfl rfl rfl rfl rfl rfl rfl rfl rfl rfl rfl (by simp; omega) (by simp; omega) ?_) | (show W _ _ _ _ _ _; first | refine W_seq ?_ | refine W_text rfl (fun _ _ _ h => h) ?_ | refine W_block ?_ | refine W_skip ?_ | refine W_exit ?_ | refine W_ret ?_ | refine W_true rfl ?_ | refine W_false rfl ?_ | refine W_cond rfl (fun _ => ?_) (fun _ => ?_)))
    exact ⟨rfl, _, rfl, rfl, rfl⟩
  · rw [h] at k1
    repeat' (first | (show DW _ _ _ _ _ _ _ _; first | refine DW_A tabs rfl ?_ | refine DW_nil ?_ | refine DW_lits tabOK rfl rfl rfl rfl rfl rfl rfl rfl rfl rfl rfl rfl rfl ?_ | refine DW_pure rfl rfl rfl rfl rfl k1 ?_ | refine DW_append_own tabOK rfl rfl rfl rfl rfl rfl rfl rfl rfl rfl rfl rfl rfl rfl rfl (by simp; omega) (by simp; omega) ?_) | (show W _ _ _ _ _ _; first | refine W_seq ?_ | refine W_text rfl (fun _ _ _ h => h) ?_ | refine W_block ?_ | refine W_skip ?_ | refine W_exit ?_ | refine W_ret ?_ | refine W_true rfl ?_ | refine W_false rfl ?_ | refine W_cond rfl (fun _ => ?_) (fun _ => ?_)))
    refine DW_concat rfl rfl rfl rfl rfl rfl (by simp; omega) ?_
    repeat' (first | (show DW _ _ _ _ _ _ _ _; first | refine DW_A tabs rfl ?_ | refine DW_nil ?_ | refine DW_lits tabOK rfl rfl rfl rfl rfl rfl rfl rfl rfl rfl rfl rfl rfl ?_ | refine DW_append_own tabOK rfl rfl rfl rfl rfl rfl rfl rfl rfl rfl rfl rfl rfl rfl rfl (by simp; omega) (by simp; omega) ?_) | (show W _ _ _ _ _ _; first | refine W_seq ?_ | refine W_text rfl (fun _ _ _ h => h) ?_ | refine W_block ?_ | refine W_skip ?_ | refine W_exit ?_ | refine W_ret ?_ | refine W_true rfl ?_ | refine W_false rfl ?_ | refine W_cond rfl (fun _ => ?_) (fun _ => ?_)))
    refine DW_concat rfl rfl rfl rfl rfl rfl (by simp; omega) ?_
    repeat' (first | (show DW _ _ _ _ _ _ _ _; first | refine DW_A tabs rfl ?_ | refine DW_nil ?_ | refine DW_lits tabOK rfl rfl rfl rfl rfl rfl rfl rfl rfl rfl rfl rfl rfl ?_ | refine DW_pure rfl rfl rfl rfl rfl k2 ?_ | refine DW_append_own tabOK rfl rfl rfl rfl rfl rfl rfl rfl rfl rfl rfl rfl rfl rfl rfl (by simp; omega) (by simp; omega) ?_) | (show W _ _ _ _ _ _; first | refine W_seq ?_ | refine W_text rfl (fun _ _ _ h => h) ?_ | refine W_block ?_ | refine W_skip ?_ | refine W_exit ?_ | refine W_ret ?_ | refine W_true rfl ?_ | refine W_false rfl ?_ | refine W_cond rfl (fun _ => ?_) (fun _ => ?_)))
    exact ⟨rfl, _, rfl, rfl, rfl⟩

def cutB (s : Bytes) : Bytes × Bytes × Bool :=
  if s = [] ∨ isPathB s = false then ([], [], false) else (s.take (lastAt 47 s).toNat, s.drop (lastAt 47 s + 1).toNat, true)
def cutA (x : Bytes × Bytes × Bool) : AV := .tup [.str x.1, .str x.2.1, .bool x.2.2]

theorem max_is (t : Int) : (if true = true then (if t < 0 then 0 else t) else if 0 < t then 0 else t) = max t 0 := by
  rw [if_pos rfl]
  split <;> omega

set_option maxRecDepth 100000 in
theorem cut_ok (s : Bytes) (hs : s.length < 100000) : APure Tryd.prog 50 [.str s] (cutA (cutB s)) := by
  intro M
  refine acalls_of tabOK Tryd.func50 rfl (by decide) (by simp [Tryd.f50]) ?_
  have k1 := isPath_ok s (by omega)
  have k2 := last47_ok s (by omega)
  unfold cutB
  by_cases h0 : s = []
  · have d0 : (s == []) = true := by simp [h0]
    rw [if_pos (.inl h0)]
    repeat' (first | (show DW _ _ _ _ _ _ _ _; first | refine DW_V tabs rfl rfl rfl rfl (congrArg AV.bool d0) ?_ | refine DW_A tabs rfl ?_ | refine DW_nil ?_ | refine DW_lits tabOK rfl rfl rfl rfl rfl rfl rfl rfl rfl rfl rfl rfl rfl ?_ | refine DW_append_own tabOK rfl rfl rfl rfl rfl rfl rfl rfl rfl rfl rfl rfl rfl rfl rfl (by simp; omega) (by simp; omega) ?_) | (show W _ _ _ _ _ _; first | refine W_seq ?_ | refine W_text rfl (fun _ _ _ h => h) ?_ | refine W_block ?_ | refine W_skip ?_ | refine W_exit ?_ | refine W_ret ?_ | refine W_true rfl ?_ | refine W_false rfl ?_ | refine W_cond rfl (fun _ => ?_) (fun _ => ?_) | refine W_draw mixed [0, 1, 2, 3, 4, 5, 6, 7, 8, 9, 10] [.P, .P, .P, .P, .P, .P, .P, .P, .P, .P, .P] rfl rfl (by kernel_rfl) ?_))
    exact ⟨rfl, _, rfl, rfl, rfl⟩
  · have d0 : (s == []) = false := by simp [h0]
    cases h : isPathB s
    · rw [h] at k1
      rw [if_pos (.inr rfl)]
      repeat' (first | (show DW _ _ _ _ _ _ _ _; first | refine DW_V tabs rfl rfl rfl rfl (congrArg AV.bool d0) ?_ | refine DW_A tabs rfl ?_ | refine DW_nil ?_ | refine DW_lits tabOK rfl rfl rfl rfl rfl rfl rfl rfl rfl rfl rfl rfl rfl ?_ | refine DW_pure rfl rfl rfl rfl rfl k1 ?_ | refine DW_append_own tabOK rfl rfl rfl rfl rfl rfl rfl rfl rfl rfl rfl rfl rfl rfl rfl (by simp; omega) (by simp; omega) ?_) | (show W _ _ _ _ _ _; first | refine W_seq ?_ | refine W_text rfl (fun _ _ _ h => h) ?_ | refine W_block ?_ | refine W_skip ?_ | refine W_exit ?_ | refine W_ret ?_ | refine W_true rfl ?_ | refine W_false rfl ?_ | refine W_cond rfl (fun _ => ?_) (fun _ => ?_) | refine W_draw mixed [0, 1, 2, 3, 4, 5, 6, 7, 8, 9, 10] [.P, .P, .P, .P, .P, .P, .P, .P, .P, .P, .P] rfl rfl (by kernel_rfl) ?_))
      exact ⟨rfl, _, rfl, rfl, rfl⟩
    · rw [h] at k1
      rw [if_neg (by simp [h0])]
      have hm := max_is (lastAt 47 s)
      rcases lastAt_spec 47 s with ⟨hl, _⟩ | ⟨i, hl, hi, _⟩
      · rw [hl] at k2 hm ⊢
        have m1 : max (-1 : Int) 0 = 0 := rfl
        rw [m1] at hm
        have w1 : IntKind.wrap .i64 (-1 + 1) = 0 := rfl
        repeat' (first | (show DW _ _ _ _ _ _ _ _; first | refine DW_V tabs rfl rfl rfl rfl (congrArg AV.bool d0) ?_ | refine DW_A tabs rfl ?_ | refine DW_nil ?_ | refine DW_lits tabOK rfl rfl rfl rfl rfl rfl rfl rfl rfl rfl rfl rfl rfl ?_ | refine DW_pure rfl rfl rfl rfl rfl k1 ?_ | refine DW_pure rfl rfl rfl rfl rfl k2 ?_ | refine DW_append_own tabOK rfl rfl rfl rfl rfl rfl rfl rfl rfl rfl rfl rfl rfl rfl rfl (by simp; omega) (by simp; omega) ?_) | (show W _ _ _ _ _ _; first | refine W_seq ?_ | refine W_text rfl (fun _ _ _ h => h) ?_ | refine W_block ?_ | refine W_skip ?_ | refine W_exit ?_ | refine W_ret ?_ | refine W_true rfl ?_ | refine W_false rfl ?_ | refine W_cond rfl (fun _ => ?_) (fun _ => ?_) | refine W_draw mixed [0, 1, 2, 3, 4, 5, 6, 7, 8, 9, 10] [.P, .P, .P, .P, .P, .P, .P, .P, .P, .P, .P] rfl rfl (by kernel_rfl) ?_))
        repeat' (first | (show DW _ _ _ _ _ _ _ _; first | refine DW_V tabs rfl rfl rfl rfl (congrArg AV.bool d0) ?_ | refine DW_V tabs rfl rfl rfl rfl (congrArg (AV.int _) hm) ?_ | refine DW_V tabs rfl rfl rfl rfl (congrArg (AV.int _) w1) ?_ | refine DW_A tabs rfl ?_ | refine DW_nil ?_ | refine DW_lits tabOK rfl rfl rfl rfl rfl rfl rfl rfl rfl rfl rfl rfl rfl ?_ | refine DW_append_own tabOK rfl rfl rfl rfl rfl rfl rfl rfl rfl rfl rfl rfl rfl rfl rfl (by simp; omega) (by simp; omega) ?_) | (show W _ _ _ _ _ _; first | refine W_seq ?_ | refine W_text rfl (fun _ _ _ h => h) ?_ | refine W_block ?_ | refine W_skip ?_ | refine W_exit ?_ | refine W_ret ?_ | refine W_true rfl ?_ | refine W_false rfl ?_ | refine W_cond rfl (fun _ => ?_) (fun _ => ?_) | refine W_draw mixed [0, 1, 2, 3, 4, 5, 6, 7, 8, 9, 10] [.P, .P, .P, .P, .P, .P, .P, .P, .P, .P, .P] rfl rfl (by kernel_rfl) ?_))
        refine DW_substr tabOK rfl rfl rfl rfl rfl rfl rfl rfl rfl (Int.le_refl 0) (Int.le_refl 0) (Int.natCast_nonneg _) ?_
        repeat' (first | (show DW _ _ _ _ _ _ _ _; first | refine DW_V tabs rfl rfl rfl rfl (congrArg AV.bool d0) ?_ | refine DW_V tabs rfl rfl rfl rfl (congrArg (AV.int _) hm) ?_ | refine DW_V tabs rfl rfl rfl rfl (congrArg (AV.int _) w1) ?_ | refine DW_A tabs rfl ?_ | refine DW_nil ?_ | refine DW_lits tabOK rfl rfl rfl rfl rfl rfl rfl rfl rfl rfl rfl rfl rfl ?_ | refine DW_append_own tabOK rfl rfl rfl rfl rfl rfl rfl rfl rfl rfl rfl rfl rfl rfl rfl (by simp; omega) (by simp; omega) ?_) | (show W _ _ _ _ _ _; first | refine W_seq ?_ | refine W_text rfl (fun _ _ _ h => h) ?_ | refine W_block ?_ | refine W_skip ?_ | refine W_exit ?_ | refine W_ret ?_ | refine W_true rfl ?_ | refine W_false rfl ?_ | refine W_cond rfl (fun _ => ?_) (fun _ => ?_) | refine W_draw mixed [0, 1, 2, 3, 4, 5, 6, 7, 8, 9, 10] [.P, .P, .P, .P, .P, .P, .P, .P, .P, .P, .P] rfl rfl (by kernel_rfl) ?_))
        refine DW_substr tabOK rfl rfl rfl rfl rfl rfl rfl rfl rfl (Int.le_refl 0) (Int.natCast_nonneg _) (Int.le_refl _) ?_
        repeat' (first | (show DW _ _ _ _ _ _ _ _; first | refine DW_V tabs rfl rfl rfl rfl (congrArg AV.bool d0) ?_ | refine DW_A tabs rfl ?_ | refine DW_nil ?_ | refine DW_lits tabOK rfl rfl rfl rfl rfl rfl rfl rfl rfl rfl rfl rfl rfl ?_ | refine DW_append_own tabOK rfl rfl rfl rfl rfl rfl rfl rfl rfl rfl rfl rfl rfl rfl rfl (by simp; omega) (by simp; omega) ?_) | (show W _ _ _ _ _ _; first | refine W_seq ?_ | refine W_text rfl (fun _ _ _ h => h) ?_ | refine W_block ?_ | refine W_skip ?_ | refine W_exit ?_ | refine W_ret ?_ | refine W_true rfl ?_ | refine W_false rfl ?_ | refine W_cond rfl (fun _ => ?_) (fun _ => ?_) | refine W_draw mixed [0, 1, 2, 3, 4, 5, 6, 7, 8, 9, 10] [.P, .P, .P, .P, .P, .P, .P, .P, .P, .P, .P] rfl rfl (by kernel_rfl) ?_))
        refine ⟨rfl, _, rfl, ?_, rfl⟩
        show AEnd.ret (.tup [.str ((s.take (0 : Int).toNat).drop (0 : Int).toNat), .str ((s.take (s.length : Int).toNat).drop (0 : Int).toNat), .bool true]) = _
        simp [cutA]
      · have hil := (List.getElem?_eq_some_iff.1 hi).1
        rw [hl] at k2 hm ⊢
        have m1 : max (i : Int) 0 = (i : Int) := by omega
        rw [m1] at hm
        have w1 := wrap_succ (i := i) (by omega)
        repeat' (first | (show DW _ _ _ _ _ _ _ _; first | refine DW_V tabs rfl rfl rfl rfl (congrArg AV.bool d0) ?_ | refine DW_A tabs rfl ?_ | refine DW_nil ?_ | refine DW_lits tabOK rfl rfl rfl rfl rfl rfl rfl rfl rfl rfl rfl rfl rfl ?_ | refine DW_pure rfl rfl rfl rfl rfl k1 ?_ | refine DW_pure rfl rfl rfl rfl rfl k2 ?_ | refine DW_append_own tabOK rfl rfl rfl rfl rfl rfl rfl rfl rfl rfl rfl rfl rfl rfl rfl (by simp; omega) (by simp; omega) ?_) | (show W _ _ _ _ _ _; first | refine W_seq ?_ | refine W_text rfl (fun _ _ _ h => h) ?_ | refine W_block ?_ | refine W_skip ?_ | refine W_exit ?_ | refine W_ret ?_ | refine W_true rfl ?_ | refine W_false rfl ?_ | refine W_cond rfl (fun _ => ?_) (fun _ => ?_) | refine W_draw mixed [0, 1, 2, 3, 4, 5, 6, 7, 8, 9, 10] [.P, .P, .P, .P, .P, .P, .P, .P, .P, .P, .P] rfl rfl (by kernel_rfl) ?_))
        repeat' (first | (show DW _ _ _ _ _ _ _ _; first | refine DW_V tabs rfl rfl rfl rfl (congrArg AV.bool d0) ?_ | refine DW_V tabs rfl rfl rfl rfl (congrArg (AV.int _) hm) ?_ | refine DW_V tabs rfl rfl rfl rfl (congrArg (AV.int _) w1) ?_ | refine DW_A tabs rfl ?_ | refine DW_nil ?_ | refine DW_lits tabOK rfl rfl rfl rfl rfl rfl rfl rfl rfl rfl rfl rfl rfl ?_ | refine DW_append_own tabOK rfl rfl rfl rfl rfl rfl rfl rfl rfl rfl rfl rfl rfl rfl rfl (by simp; omega) (by simp; omega) ?_) | (show W _ _ _ _ _ _; first | refine W_seq ?_ | refine W_text rfl (fun _ _ _ h => h) ?_ | refine W_block ?_ | refine W_skip ?_ | refine W_exit ?_ | refine W_ret ?_ | refine W_true rfl ?_ | refine W_false rfl ?_ | refine W_cond rfl (fun _ => ?_) (fun _ => ?_) | refine W_draw mixed [0, 1, 2, 3, 4, 5, 6, 7, 8, 9, 10] [.P, .P, .P, .P, .P, .P, .P, .P, .P, .P, .P] rfl rfl (by kernel_rfl) ?_))
        refine DW_substr tabOK rfl rfl rfl rfl rfl rfl rfl rfl rfl (Int.le_refl 0) (Int.natCast_nonneg _) (by omega) ?_
        repeat' (first | (show DW _ _ _ _ _ _ _ _; first | refine DW_V tabs rfl rfl rfl rfl (congrArg AV.bool d0) ?_ | refine DW_V tabs rfl rfl rfl rfl (congrArg (AV.int _) hm) ?_ | refine DW_V tabs rfl rfl rfl rfl (congrArg (AV.int _) w1) ?_ | refine DW_A tabs rfl ?_ | refine DW_nil ?_ | refine DW_lits tabOK rfl rfl rfl rfl rfl rfl rfl rfl rfl rfl rfl rfl rfl ?_ | refine DW_append_own tabOK rfl rfl rfl rfl rfl rfl rfl rfl rfl rfl rfl rfl rfl rfl rfl (by simp; omega) (by simp; omega) ?_) | (show W _ _ _ _ _ _; first | refine W_seq ?_ | refine W_text rfl (fun _ _ _ h => h) ?_ | refine W_block ?_ | refine W_skip ?_ | refine W_exit ?_ | refine W_ret ?_ | refine W_true rfl ?_ | refine W_false rfl ?_ | refine W_cond rfl (fun _ => ?_) (fun _ => ?_) | refine W_draw mixed [0, 1, 2, 3, 4, 5, 6, 7, 8, 9, 10] [.P, .P, .P, .P, .P, .P, .P, .P, .P, .P, .P] rfl rfl (by kernel_rfl) ?_))
        refine DW_substr tabOK rfl rfl rfl rfl rfl rfl rfl rfl rfl (Int.natCast_nonneg _) (by omega) (Int.le_refl _) ?_
        repeat' (first | (show DW _ _ _ _ _ _ _ _; first | refine DW_V tabs rfl rfl rfl rfl (congrArg AV.bool d0) ?_ | refine DW_A tabs rfl ?_ | refine DW_nil ?_ | refine DW_lits tabOK rfl rfl rfl rfl rfl rfl rfl rfl rfl rfl rfl rfl rfl ?_ | refine DW_append_own tabOK rfl rfl rfl rfl rfl rfl rfl rfl rfl rfl rfl rfl rfl rfl rfl (by simp; omega) (by simp; omega) ?_) | (show W _ _ _ _ _ _; first | refine W_seq ?_ | refine W_text rfl (fun _ _ _ h => h) ?_ | refine W_block ?_ | refine W_skip ?_ | refine W_exit ?_ | refine W_ret ?_ | refine W_true rfl ?_ | refine W_false rfl ?_ | refine W_cond rfl (fun _ => ?_) (fun _ => ?_) | refine W_draw mixed [0, 1, 2, 3, 4, 5, 6, 7, 8, 9, 10] [.P, .P, .P, .P, .P, .P, .P, .P, .P, .P, .P] rfl rfl (by kernel_rfl) ?_))
        refine ⟨rfl, _, rfl, ?_, rfl⟩
        show AEnd.ret (.tup [.str ((s.take (i : Int).toNat).drop (0 : Int).toNat), .str ((s.take (s.length : Int).toNat).drop ((i + 1 : Nat) : Int).toNat), .bool true]) = _
        have e : (((i : Nat) : Int) + 1).toNat = i + 1 := by omega
        simp [cutA, e]

def pbA (x : Bytes × Bool) : AV := .tup [.str x.1, .bool x.2]

theorem parent_ok (s : Bytes) (hs : s.length < 100000) : APure Tryd.prog 32 [.str s] (pbA ((cutB s).1, (cutB s).2.2)) := by
  intro M
  refine acalls_of tabOK Tryd.func32 rfl (by decide) (by simp [Tryd.f32]) ?_
  have k := cut_ok s hs
  generalize cutB s = z at k
  repeat' (first | (show DW _ _ _ _ _ _ _ _; first | refine DW_A tabs rfl ?_ | refine DW_nil ?_ | refine DW_lits tabOK rfl rfl rfl rfl rfl rfl rfl rfl rfl rfl rfl rfl rfl ?_ | refine DW_pure rfl rfl rfl rfl rfl k ?_ | refine DW_append_own tabOK rfl rfl rfl rfl rfl rfl rfl rfl rfl rfl rfl rfl rfl rfl rfl (by simp; omega) (by simp; omega) ?_) | (show W _ _ _ _ _ _; first | refine W_seq ?_ | refine W_text rfl (fun _ _ _ h => h) ?_ | refine W_block ?_ | refine W_skip ?_ | refine W_exit ?_ | refine W_ret ?_ | refine W_true rfl ?_ | refine W_false rfl ?_ | refine W_cond rfl (fun _ => ?_) (fun _ => ?_)))
  exact ⟨rfl, _, rfl, rfl, rfl⟩

theorem base_ok (s : Bytes) (hs : s.length < 100000) : APure Tryd.prog 34 [.str s] (pbA ((cutB s).2.1, (cutB s).2.2)) := by
  intro M
  refine acalls_of tabOK Tryd.func34 rfl (by decide) (by simp [Tryd.f34]) ?_
  have k := cut_ok s hs
  generalize cutB s = z at k
  repeat' (first | (show DW _ _ _ _ _ _ _ _; first | refine DW_A tabs rfl ?_ | refine DW_nil ?_ | refine DW_lits tabOK rfl rfl rfl rfl rfl rfl rfl rfl rfl rfl rfl rfl rfl ?_ | refine DW_pure rfl rfl rfl rfl rfl k ?_ | refine DW_append_own tabOK rfl rfl rfl rfl rfl rfl rfl rfl rfl rfl rfl rfl rfl rfl rfl (by simp; omega) (by simp; omega) ?_) | (show W _ _ _ _ _ _; first | refine W_seq ?_ | refine W_text rfl (fun _ _ _ h => h) ?_ | refine W_block ?_ | refine W_skip ?_ | refine W_exit ?_ | refine W_ret ?_ | refine W_true rfl ?_ | refine W_false rfl ?_ | refine W_cond rfl (fun _ => ?_) (fun _ => ?_)))
  exact ⟨rfl, _, rfl, rfl, rfl⟩

def depthB (s : Bytes) : Int := if isPathB s = false then -1 else if s = [] then 0 else ((Lib.countByte s 47 : Nat) : Int) + 1

set_option maxRecDepth 100000 in
theorem depth_ok (s : Bytes) (hs : s.length < 100000) : APure Tryd.prog 36 [.str s] (.int .i64 (depthB s)) := by
  intro M
  refine acalls_of tabOK Tryd.func36 rfl (by decide) (by simp [Tryd.f36]) ?_
  have k1 := isPath_ok s (by omega)
  have k2 := count1_ok s 47
  unfold depthB
  cases h : isPathB s
  · rw [h] at k1
    repeat' (first | (show DW _ _ _ _ _ _ _ _; first | refine DW_A tabs rfl ?_ | refine DW_nil ?_ | refine DW_lits tabOK rfl rfl rfl rfl rfl rfl rfl rfl rfl rfl rfl rfl rfl ?_ | refine DW_pure rfl rfl rfl rfl rfl k1 ?_ | refine DW_append_own tabOK rfl rfl rfl rfl rfl rfl rfl rfl rfl rfl rfl rfl rfl rfl rfl (by simp; omega) (by simp; omega) ?_) | (show W _ _ _ _ _ _; first | refine W_seq ?_ | refine W_text rfl (fun _ _ _ h => h) ?_ | refine W_block ?_ | refine W_skip ?_ | refine W_exit ?_ | refine W_ret ?_ | refine W_true rfl ?_ | refine W_false rfl ?_ | refine W_cond rfl (fun _ => ?_) (fun _ => ?_)))
    exact ⟨rfl, _, rfl, rfl, rfl⟩
  · rw [h] at k1
    by_cases h0 : s = []
    · have d0 : (s == []) = true := by simp [h0]
      rw [if_neg (by simp), if_pos h0]
      repeat' (first | (show DW _ _ _ _ _ _ _ _; first | refine DW_V tabs rfl rfl rfl rfl (congrArg AV.bool d0) ?_ | refine DW_A tabs rfl ?_ | refine DW_nil ?_ | refine DW_lits tabOK rfl rfl rfl rfl rfl rfl rfl rfl rfl rfl rfl rfl rfl ?_ | refine DW_pure rfl rfl rfl rfl rfl k1 ?_ | refine DW_append_own tabOK rfl rfl rfl rfl rfl rfl rfl rfl rfl rfl rfl rfl rfl rfl rfl (by simp; omega) (by simp; omega) ?_) | (show W _ _ _ _ _ _; first | refine W_seq ?_ | refine W_text rfl (fun _ _ _ h => h) ?_ | refine W_block ?_ | refine W_skip ?_ | refine W_exit ?_ | refine W_ret ?_ | refine W_true rfl ?_ | refine W_false rfl ?_ | refine W_cond rfl (fun _ => ?_) (fun _ => ?_)))
      exact ⟨rfl, _, rfl, rfl, rfl⟩
    · have d0 : (s == []) = false := by simp [h0]
      rw [if_neg (by simp), if_neg h0]
      have hc : Lib.countByte s 47 ≤ s.length := List.count_le_length
      have w1 : IntKind.wrap .i64 (((Lib.countByte s 47 : Nat) : Int) + 1) = ((Lib.countByte s 47 : Nat) : Int) + 1 := Go.Ab.wrap_small (by omega) (by omega)
      repeat' (first | (show DW _ _ _ _ _ _ _ _; first | refine DW_V tabs rfl rfl rfl rfl (congrArg AV.bool d0) ?_ | refine DW_V tabs rfl rfl rfl rfl (congrArg (AV.int _) w1) ?_ | refine DW_A tabs rfl ?_ | refine DW_nil ?_ | refine DW_lits tabOK rfl rfl rfl rfl rfl rfl rfl rfl rfl rfl rfl rfl rfl ?_ | refine DW_pure rfl rfl rfl rfl rfl k1 ?_ | refine DW_pure rfl rfl rfl rfl rfl k2 ?_ | refine DW_append_own tabOK rfl rfl rfl rfl rfl rfl rfl rfl rfl rfl rfl rfl rfl rfl rfl (by simp; omega) (by simp; omega) ?_) | (show W _ _ _ _ _ _; first | refine W_seq ?_ | refine W_text rfl (fun _ _ _ h => h) ?_ | refine W_block ?_ | refine W_skip ?_ | refine W_exit ?_ | refine W_ret ?_ | refine W_true rfl ?_ | refine W_false rfl ?_ | refine W_cond rfl (fun _ => ?_) (fun _ => ?_)))
      exact ⟨rfl, _, rfl, rfl, rfl⟩
end Go.Proofs.YteimhnedflbkmaaDoor

/- The document's joins, parents, last names and depths tell what their texts say. No further condition. -/
set_option linter.unusedVariables false
set_option linter.unusedSimpArgs false
namespace Go.Proofs.YteimhnedflbkmaaDoor
open Go.Ab

theorem glueL_cons (sep x : Bytes) {r : List Bytes} (h : r ≠ []) : glueL sep (x :: r) = x ++ sep ++ glueL sep r := by
  cases r with
  | nil => exact absurd rfl h
  | cons y r => rfl
theorem glue_snoc (sep x : Bytes) : ∀ l : List Bytes, l ≠ [] → glueL sep (l ++ [x]) = glueL sep l ++ sep ++ x
  | [], h => absurd rfl h
  | [y], _ => by simp [glueL]
  | y :: z :: r, _ => by
    have ih := glue_snoc sep x (z :: r) (by simp)
    show glueL sep (y :: ((z :: r) ++ [x])) = _
    rw [glueL_cons sep y (r := (z :: r) ++ [x]) (by simp), ih, glueL_cons sep y (r := z :: r) (by simp)]
    simp

set_option maxRecDepth 100000 in
theorem glue_ok (l : List Bytes) (hl : l.length < 100000) (hp : ∀ p, p ∈ l → p.length ≤ 100000) (tg : Tag) : APure Tryd.prog 52 [.sl 1 (l.map .str) tg] (.str (glueL [47] l)) := by
  intro M
  refine acalls_of tabOK Tryd.func52 rfl (by decide) (by simp [Tryd.f52]) ?_
  have la : ((l.map AV.str).length : Int) = (l.length : Int) := by simp
  repeat' (first | (show DW _ _ _ _ _ _ _ _; first | refine DW_V tabs rfl rfl rfl rfl (congrArg (AV.int _) la) ?_ | refine DW_A tabs rfl ?_ | refine DW_nil ?_ | refine DW_lits tabOK rfl rfl rfl rfl rfl rfl rfl rfl rfl rfl rfl rfl rfl ?_ | refine DW_append_own tabOK rfl rfl rfl rfl rfl rfl rfl rfl rfl rfl rfl rfl rfl rfl rfl (by simp; omega) (by simp; omega) ?_) | (show W _ _ _ _ _ _; first | refine W_seq ?_ | refine W_text rfl (fun _ _ _ h => h) ?_ | refine W_block ?_ | refine W_skip ?_ | refine W_exit ?_ | refine W_ret ?_ | refine W_true rfl ?_ | refine W_false rfl ?_ | refine W_cond rfl (fun _ => ?_) (fun _ => ?_)))
  refine W_count l.length (fun i f N => N = M ∧ f = ⟨[(0, .sl 1 (l.map AV.str) tg), (3, .str (glueL [47] (l.take i))), (4, .int .i64 (i : Int))], []⟩) (Nat.zero_le _) ⟨rfl, rfl⟩ (Joint.le ?_ (Mem.le_refl _)) ?_
  · skip
    repeat (refine AF.le_cons rfl ?_)
    exact AF.le_nil rfl
  · rintro i f N hi ⟨rfl, rfl⟩
    by_cases h1 : i < l.length
    · have d1 : decide ((i : Int) < (l.length : Int)) = true := by simp; omega
      have hx : l[i]? = some l[i] := List.getElem?_eq_getElem h1
      have fi := wrap_succ (i := i) (by omega)
      have ht := take_succ hx
      generalize l[i] = p at hx ht
      have hpl := hp p (List.mem_of_getElem? hx)
      have hgl := glue_len [47] 100000 (l.take i) (fun q hq => hp q (List.mem_of_mem_take hq))
      have hgl2 : (glueL [47] (l.take i)).length ≤ 100000 * 100001 := by
        refine Nat.le_trans hgl ?_
        refine Nat.mul_le_mul ?_ (Nat.le_refl _)
        simp
        omega
      by_cases h0 : i = 0
      · subst h0
        have d2 : decide ((0 : Int) < ((0 : Nat) : Int)) = false := rfl
        repeat' (first | (show DW _ _ _ _ _ _ _ _; first | refine DW_V tabs rfl rfl rfl rfl (congrArg AV.bool d1) ?_ | refine DW_V tabs rfl rfl rfl rfl (congrArg AV.bool d2) ?_ | refine DW_V tabs rfl rfl rfl rfl (congrArg (AV.int _) la) ?_ | refine DW_V tabs rfl rfl rfl rfl (congrArg (AV.int _) fi) ?_ | refine DW_A tabs rfl ?_ | refine DW_nil ?_ | refine DW_lits tabOK rfl rfl rfl rfl rfl rfl rfl rfl rfl rfl rfl rfl rfl ?_ | refine DW_append_own tabOK rfl rfl rfl rfl rfl rfl rfl rfl rfl rfl rfl rfl rfl rfl rfl (by simp; omega) (by simp; omega) ?_) | (show W _ _ _ _ _ _; first | refine W_seq ?_ | refine W_text rfl (fun _ _ _ h => h) ?_ | refine W_block ?_ | refine W_skip ?_ | refine W_exit ?_ | refine W_ret ?_ | refine W_true rfl ?_ | refine W_false rfl ?_ | refine W_cond rfl (fun _ => ?_) (fun _ => ?_)))
        refine DW_index tabOK rfl rfl rfl rfl rfl rfl rfl rfl rfl rfl (Int.natCast_nonneg _) (map_get hx) ?_
        repeat' (first | (show DW _ _ _ _ _ _ _ _; first | refine DW_V tabs rfl rfl rfl rfl (congrArg (AV.int _) la) ?_ | refine DW_V tabs rfl rfl rfl rfl (congrArg (AV.int _) fi) ?_ | refine DW_A tabs rfl ?_ | refine DW_nil ?_ | refine DW_lits tabOK rfl rfl rfl rfl rfl rfl rfl rfl rfl rfl rfl rfl rfl ?_ | refine DW_append_own tabOK rfl rfl rfl rfl rfl rfl rfl rfl rfl rfl rfl rfl rfl rfl rfl (by simp; omega) (by simp; omega) ?_) | (show W _ _ _ _ _ _; first | refine W_seq ?_ | refine W_text rfl (fun _ _ _ h => h) ?_ | refine W_block ?_ | refine W_skip ?_ | refine W_exit ?_ | refine W_ret ?_ | refine W_true rfl ?_ | refine W_false rfl ?_ | refine W_cond rfl (fun _ => ?_) (fun _ => ?_)))
        refine DW_concat rfl rfl rfl rfl rfl rfl (by simp [glueL]; omega) ?_
        repeat' (first | (show DW _ _ _ _ _ _ _ _; first | refine DW_V tabs rfl rfl rfl rfl (congrArg (AV.int _) la) ?_ | refine DW_V tabs rfl rfl rfl rfl (congrArg (AV.int _) fi) ?_ | refine DW_A tabs rfl ?_ | refine DW_nil ?_ | refine DW_lits tabOK rfl rfl rfl rfl rfl rfl rfl rfl rfl rfl rfl rfl rfl ?_ | refine DW_append_own tabOK rfl rfl rfl rfl rfl rfl rfl rfl rfl rfl rfl rfl rfl rfl rfl (by simp; omega) (by simp; omega) ?_) | (show W _ _ _ _ _ _; first | refine W_seq ?_ | refine W_text rfl (fun _ _ _ h => h) ?_ | refine W_block ?_ | refine W_skip ?_ | refine W_exit ?_ | refine W_ret ?_ | refine W_true rfl ?_ | refine W_false rfl ?_ | refine W_cond rfl (fun _ => ?_) (fun _ => ?_)))
        refine ⟨h1, _, _, ⟨rfl, rfl⟩, Joint.le (AF.le_cons rfl (AF.le_cons ?_ (AF.le_cons rfl (AF.le_nil rfl)))) (Mem.le_refl _)⟩
        rw [ht]
        rfl
      · have d2 : decide ((0 : Int) < (i : Int)) = true := by simp; omega
        have hb1 : (glueL [47] (l.take i)).length + [(47 : UInt8)].length ≤ 9223372036854775807 := by
          simp only [List.length_cons, List.length_nil]
          omega
        have hb2 : (glueL [47] (l.take i) ++ [47]).length + p.length ≤ 9223372036854775807 := by
          simp only [List.length_append, List.length_cons, List.length_nil]
          omega
        have hs := glue_snoc [47] p (l.take i) (by intro e; have := congrArg List.length e; rw [List.length_take, List.length_nil] at this; omega)
        repeat' (first | (show DW _ _ _ _ _ _ _ _; first | refine DW_V tabs rfl rfl rfl rfl (congrArg AV.bool d1) ?_ | refine DW_V tabs rfl rfl rfl rfl (congrArg AV.bool d2) ?_ | refine DW_V tabs rfl rfl rfl rfl (congrArg (AV.int _) la) ?_ | refine DW_V tabs rfl rfl rfl rfl (congrArg (AV.int _) fi) ?_ | refine DW_A tabs rfl ?_ | refine DW_nil ?_ | refine DW_lits tabOK rfl rfl rfl rfl rfl rfl rfl rfl rfl rfl rfl rfl rfl ?_ | refine DW_append_own tabOK rfl rfl rfl rfl rfl rfl rfl rfl rfl rfl rfl rfl rfl rfl rfl (by simp; omega) (by simp; omega) ?_) | (show W _ _ _ _ _ _; first | refine W_seq ?_ | refine W_text rfl (fun _ _ _ h => h) ?_ | refine W_block ?_ | refine W_skip ?_ | refine W_exit ?_ | refine W_ret ?_ | refine W_true rfl ?_ | refine W_false rfl ?_ | refine W_cond rfl (fun _ => ?_) (fun _ => ?_)))
        refine DW_concat rfl rfl rfl rfl rfl rfl hb1 ?_
        repeat' (first | (show DW _ _ _ _ _ _ _ _; first | refine DW_V tabs rfl rfl rfl rfl (congrArg AV.bool d1) ?_ | refine DW_V tabs rfl rfl rfl rfl (congrArg AV.bool d2) ?_ | refine DW_V tabs rfl rfl rfl rfl (congrArg (AV.int _) la) ?_ | refine DW_V tabs rfl rfl rfl rfl (congrArg (AV.int _) fi) ?_ | refine DW_A tabs rfl ?_ | refine DW_nil ?_ | refine DW_lits tabOK rfl rfl rfl rfl rfl rfl rfl rfl rfl rfl rfl rfl rfl ?_ | refine DW_append_own tabOK rfl rfl rfl rfl rfl rfl rfl rfl rfl rfl rfl rfl rfl rfl rfl (by simp; omega) (by simp; omega) ?_) | (show W _ _ _ _ _ _; first | refine W_seq ?_ | refine W_text rfl (fun _ _ _ h => h) ?_ | refine W_block ?_ | refine W_skip ?_ | refine W_exit ?_ | refine W_ret ?_ | refine W_true rfl ?_ | refine W_false rfl ?_ | refine W_cond rfl (fun _ => ?_) (fun _ => ?_)))
        refine DW_index tabOK rfl rfl rfl rfl rfl rfl rfl rfl rfl rfl (Int.natCast_nonneg _) (map_get hx) ?_
        repeat' (first | (show DW _ _ _ _ _ _ _ _; first | refine DW_V tabs rfl rfl rfl rfl (congrArg (AV.int _) la) ?_ | refine DW_V tabs rfl rfl rfl rfl (congrArg (AV.int _) fi) ?_ | refine DW_A tabs rfl ?_ | refine DW_nil ?_ | refine DW_lits tabOK rfl rfl rfl rfl rfl rfl rfl rfl rfl rfl rfl rfl rfl ?_ | refine DW_append_own tabOK rfl rfl rfl rfl rfl rfl rfl rfl rfl rfl rfl rfl rfl rfl rfl (by simp; omega) (by simp; omega) ?_) | (show W _ _ _ _ _ _; first | refine W_seq ?_ | refine W_text rfl (fun _ _ _ h => h) ?_ | refine W_block ?_ | refine W_skip ?_ | refine W_exit ?_ | refine W_ret ?_ | refine W_true rfl ?_ | refine W_false rfl ?_ | refine W_cond rfl (fun _ => ?_) (fun _ => ?_)))
        refine DW_concat rfl rfl rfl rfl rfl rfl hb2 ?_
        repeat' (first | (show DW _ _ _ _ _ _ _ _; first | refine DW_V tabs rfl rfl rfl rfl (congrArg (AV.int _) la) ?_ | refine DW_V tabs rfl rfl rfl rfl (congrArg (AV.int _) fi) ?_ | refine DW_A tabs rfl ?_ | refine DW_nil ?_ | refine DW_lits tabOK rfl rfl rfl rfl rfl rfl rfl rfl rfl rfl rfl rfl rfl ?_ | refine DW_append_own tabOK rfl rfl rfl rfl rfl rfl rfl rfl rfl rfl rfl rfl rfl rfl rfl (by simp; omega) (by simp; omega) ?_) | (show W _ _ _ _ _ _; first | refine W_seq ?_ | refine W_text rfl (fun _ _ _ h => h) ?_ | refine W_block ?_ | refine W_skip ?_ | refine W_exit ?_ | refine W_ret ?_ | refine W_true rfl ?_ | refine W_false rfl ?_ | refine W_cond rfl (fun _ => ?_) (fun _ => ?_)))
        refine ⟨h1, _, _, ⟨rfl, rfl⟩, Joint.le (AF.le_cons rfl (AF.le_cons ?_ (AF.le_cons rfl (AF.le_nil rfl)))) (Mem.le_refl _)⟩
        rw [ht, hs]
        rfl
    · have d1 : decide ((i : Int) < (l.length : Int)) = false := by simp; omega
      have hl2 : l.take i = l := List.take_of_length_le (by omega)
      rw [hl2]
      repeat' (first | (show DW _ _ _ _ _ _ _ _; first | refine DW_V tabs rfl rfl rfl rfl (congrArg AV.bool d1) ?_ | refine DW_V tabs rfl rfl rfl rfl (congrArg (AV.int _) la) ?_ | refine DW_A tabs rfl ?_ | refine DW_nil ?_ | refine DW_lits tabOK rfl rfl rfl rfl rfl rfl rfl rfl rfl rfl rfl rfl rfl ?_ | refine DW_append_own tabOK rfl rfl rfl rfl rfl rfl rfl rfl rfl rfl rfl rfl rfl rfl rfl (by simp; omega) (by simp; omega) ?_) | (show W _ _ _ _ _ _; first | refine W_seq ?_ | refine W_text rfl (fun _ _ _ h => h) ?_ | refine W_block ?_ | refine W_skip ?_ | refine W_exit ?_ | refine W_ret ?_ | refine W_true rfl ?_ | refine W_false rfl ?_ | refine W_cond rfl (fun _ => ?_) (fun _ => ?_)))
      exact ⟨rfl, _, rfl, rfl, rfl⟩

def rparentB (s : Bytes) : Bytes × Bool := if (namesB s).2 = false ∨ (namesB s).1 = [] then ([], false) else (glueL [47] (namesB s).1.dropLast, true)
def rbaseB (s : Bytes) : Bytes × Bool := if (namesB s).2 = false ∨ (namesB s).1 = [] then ([], false) else ((namesB s).1.getLastD [], true)
def rdepthB (s : Bytes) : Int := if (namesB s).2 = false then -1 else ((namesB s).1.length : Int)

theorem names_small (s : Bytes) (hs : s.length < 100000) : (namesB s).1.length < 100001 ∧ ∀ p, p ∈ (namesB s).1 → p.length ≤ 100000 := by
  have h := splitOn_len 47 s
  unfold namesB
  split
  · simp
  · split
    · exact ⟨by simp; omega, fun p hp => by have := h.2 p hp; omega⟩
    · simp

set_option maxRecDepth 100000 in
theorem rParent_ok (s : Bytes) (hs : s.length < 99999) : APure Tryd.prog 33 [.str s] (pbA (rparentB s)) := by
  intro M
  refine acalls_of tabOK Tryd.func33 rfl (by decide) (by simp [Tryd.f33]) ?_
  have k := names_ok s (by omega)
  have hb := splitOn_len 47 s
  have hsm := names_small s (by omega)
  have hln : (namesB s).1.length < 100000 := by
    unfold namesB
    split
    · simp
    · split
      · simp; omega
      · simp
  unfold rparentB
  generalize namesB s = z at k hsm hln
  obtain ⟨l, b⟩ := z
  simp only at hsm hln
  have la : ((l.map AV.str).length : Int) = (l.length : Int) := by simp
  cases b
  · rw [if_pos (.inl rfl)]
    repeat' (first | (show DW _ _ _ _ _ _ _ _; first | refine DW_V tabs rfl rfl rfl rfl (congrArg (AV.int _) la) ?_ | refine DW_A tabs rfl ?_ | refine DW_nil ?_ | refine DW_lits tabOK rfl rfl rfl rfl rfl rfl rfl rfl rfl rfl rfl rfl rfl ?_ | refine DW_pure rfl rfl rfl rfl rfl k ?_ | refine DW_append_own tabOK rfl rfl rfl rfl rfl rfl rfl rfl rfl rfl rfl rfl rfl rfl rfl (by simp; omega) (by simp; omega) ?_) | (show W _ _ _ _ _ _; first | refine W_seq ?_ | refine W_text rfl (fun _ _ _ h => h) ?_ | refine W_block ?_ | refine W_skip ?_ | refine W_exit ?_ | refine W_ret ?_ | refine W_true rfl ?_ | refine W_false rfl ?_ | refine W_cond rfl (fun _ => ?_) (fun _ => ?_)))
    exact ⟨rfl, _, rfl, rfl, rfl⟩
  · by_cases h0 : l = []
    · have d0 : decide ((l.length : Int) = 0) = true := by simp [h0]
      rw [if_pos (.inr h0)]
      repeat' (first | (show DW _ _ _ _ _ _ _ _; first | refine DW_V tabs rfl rfl rfl rfl (congrArg AV.bool d0) ?_ | refine DW_V tabs rfl rfl rfl rfl (congrArg (AV.int _) la) ?_ | refine DW_A tabs rfl ?_ | refine DW_nil ?_ | refine DW_lits tabOK rfl rfl rfl rfl rfl rfl rfl rfl rfl rfl rfl rfl rfl ?_ | refine DW_pure rfl rfl rfl rfl rfl k ?_ | refine DW_append_own tabOK rfl rfl rfl rfl rfl rfl rfl rfl rfl rfl rfl rfl rfl rfl rfl (by simp; omega) (by simp; omega) ?_) | (show W _ _ _ _ _ _; first | refine W_seq ?_ | refine W_text rfl (fun _ _ _ h => h) ?_ | refine W_block ?_ | refine W_skip ?_ | refine W_exit ?_ | refine W_ret ?_ | refine W_true rfl ?_ | refine W_false rfl ?_ | refine W_cond rfl (fun _ => ?_) (fun _ => ?_)))
      exact ⟨rfl, _, rfl, rfl, rfl⟩
    · have hpos : 0 < l.length := List.length_pos_iff.2 h0
      have d0 : decide ((l.length : Int) = 0) = false := by simp; omega
      rw [if_neg (by simp [h0])]
      have e1 : IntKind.wrap .i64 ((l.length : Int) - 1) = ((l.length - 1 : Nat) : Int) := (Go.Ab.wrap_small (by omega) (by omega)).trans (by omega)
      have kg := glue_ok l.dropLast (by simp; omega) (fun p hp => hsm.2 p (by rw [List.dropLast_eq_take] at hp; exact List.mem_of_mem_take hp)) .none
      have em : ((l.map AV.str).take (((l.length - 1 : Nat) : Int)).toNat).drop (0 : Int).toNat = l.dropLast.map AV.str := by
        rw [List.dropLast_eq_take]
        simp [List.map_take]
      rw [← em] at kg
      repeat' (first | (show DW _ _ _ _ _ _ _ _; first | refine DW_V tabs rfl rfl rfl rfl (congrArg AV.bool d0) ?_ | refine DW_V tabs rfl rfl rfl rfl (congrArg (AV.int _) la) ?_ | refine DW_V tabs rfl rfl rfl rfl (congrArg (AV.int _) e1) ?_ | refine DW_A tabs rfl ?_ | refine DW_nil ?_ | refine DW_lits tabOK rfl rfl rfl rfl rfl rfl rfl rfl rfl rfl rfl rfl rfl ?_ | refine DW_pure rfl rfl rfl rfl rfl k ?_ | refine DW_append_own tabOK rfl rfl rfl rfl rfl rfl rfl rfl rfl rfl rfl rfl rfl rfl rfl (by simp; omega) (by simp; omega) ?_) | (show W _ _ _ _ _ _; first | refine W_seq ?_ | refine W_text rfl (fun _ _ _ h => h) ?_ | refine W_block ?_ | refine W_skip ?_ | refine W_exit ?_ | refine W_ret ?_ | refine W_true rfl ?_ | refine W_false rfl ?_ | refine W_cond rfl (fun _ => ?_) (fun _ => ?_)))
      refine DW_slice tabOK rfl rfl rfl rfl rfl rfl rfl rfl rfl rfl rfl (Int.le_refl 0) (by omega) (by rw [la]; omega) ?_
      repeat' (first | (show DW _ _ _ _ _ _ _ _; first | refine DW_V tabs rfl rfl rfl rfl (congrArg AV.bool d0) ?_ | refine DW_V tabs rfl rfl rfl rfl (congrArg (AV.int _) la) ?_ | refine DW_V tabs rfl rfl rfl rfl (congrArg (AV.int _) e1) ?_ | refine DW_A tabs rfl ?_ | refine DW_nil ?_ | refine DW_lits tabOK rfl rfl rfl rfl rfl rfl rfl rfl rfl rfl rfl rfl rfl ?_ | refine DW_pure rfl rfl rfl rfl rfl kg ?_ | refine DW_append_own tabOK rfl rfl rfl rfl rfl rfl rfl rfl rfl rfl rfl rfl rfl rfl rfl (by simp; omega) (by simp; omega) ?_) | (show W _ _ _ _ _ _; first | refine W_seq ?_ | refine W_text rfl (fun _ _ _ h => h) ?_ | refine W_block ?_ | refine W_skip ?_ | refine W_exit ?_ | refine W_ret ?_ | refine W_true rfl ?_ | refine W_false rfl ?_ | refine W_cond rfl (fun _ => ?_) (fun _ => ?_)))
      exact ⟨rfl, _, rfl, rfl, rfl⟩

set_option maxRecDepth 100000 in
theorem rBase_ok (s : Bytes) (hs : s.length < 99999) : APure Tryd.prog 35 [.str s] (pbA (rbaseB s)) := by
  intro M
  refine acalls_of tabOK Tryd.func35 rfl (by decide) (by simp [Tryd.f35]) ?_
  have k := names_ok s (by omega)
  have hsm := names_small s (by omega)
  unfold rbaseB
  generalize namesB s = z at k hsm
  obtain ⟨l, b⟩ := z
  simp only at hsm
  have la : ((l.map AV.str).length : Int) = (l.length : Int) := by simp
  cases b
  · rw [if_pos (.inl rfl)]
    repeat' (first | (show DW _ _ _ _ _ _ _ _; first | refine DW_V tabs rfl rfl rfl rfl (congrArg (AV.int _) la) ?_ | refine DW_A tabs rfl ?_ | refine DW_nil ?_ | refine DW_lits tabOK rfl rfl rfl rfl rfl rfl rfl rfl rfl rfl rfl rfl rfl ?_ | refine DW_pure rfl rfl rfl rfl rfl k ?_ | refine DW_append_own tabOK rfl rfl rfl rfl rfl rfl rfl rfl rfl rfl rfl rfl rfl rfl rfl (by simp; omega) (by simp; omega) ?_) | (show W _ _ _ _ _ _; first | refine W_seq ?_ | refine W_text rfl (fun _ _ _ h => h) ?_ | refine W_block ?_ | refine W_skip ?_ | refine W_exit ?_ | refine W_ret ?_ | refine W_true rfl ?_ | refine W_false rfl ?_ | refine W_cond rfl (fun _ => ?_) (fun _ => ?_)))
    exact ⟨rfl, _, rfl, rfl, rfl⟩
  · by_cases h0 : l = []
    · have d0 : decide ((l.length : Int) = 0) = true := by simp [h0]
      rw [if_pos (.inr h0)]
      repeat' (first | (show DW _ _ _ _ _ _ _ _; first | refine DW_V tabs rfl rfl rfl rfl (congrArg AV.bool d0) ?_ | refine DW_V tabs rfl rfl rfl rfl (congrArg (AV.int _) la) ?_ | refine DW_A tabs rfl ?_ | refine DW_nil ?_ | refine DW_lits tabOK rfl rfl rfl rfl rfl rfl rfl rfl rfl rfl rfl rfl rfl ?_ | refine DW_pure rfl rfl rfl rfl rfl k ?_ | refine DW_append_own tabOK rfl rfl rfl rfl rfl rfl rfl rfl rfl rfl rfl rfl rfl rfl rfl (by simp; omega) (by simp; omega) ?_) | (show W _ _ _ _ _ _; first | refine W_seq ?_ | refine W_text rfl (fun _ _ _ h => h) ?_ | refine W_block ?_ | refine W_skip ?_ | refine W_exit ?_ | refine W_ret ?_ | refine W_true rfl ?_ | refine W_false rfl ?_ | refine W_cond rfl (fun _ => ?_) (fun _ => ?_)))
      exact ⟨rfl, _, rfl, rfl, rfl⟩
    · have hpos : 0 < l.length := List.length_pos_iff.2 h0
      have d0 : decide ((l.length : Int) = 0) = false := by simp; omega
      rw [if_neg (by simp [h0])]
      have e1 : IntKind.wrap .i64 ((l.length : Int) - 1) = ((l.length - 1 : Nat) : Int) := (Go.Ab.wrap_small (by omega) (by omega)).trans (by omega)
      have hx : l[l.length - 1]? = some (l.getLastD []) := by
        rw [← List.getLast?_eq_getElem?]
        cases l with
        | nil => exact absurd rfl h0
        | cons a r => rw [List.getLastD_eq_getLast?]; rw [List.getLast?_eq_some_getLast (by simp)]; rfl
      repeat' (first | (show DW _ _ _ _ _ _ _ _; first | refine DW_V tabs rfl rfl rfl rfl (congrArg AV.bool d0) ?_ | refine DW_V tabs rfl rfl rfl rfl (congrArg (AV.int _) la) ?_ | refine DW_V tabs rfl rfl rfl rfl (congrArg (AV.int _) e1) ?_ | refine DW_A tabs rfl ?_ | refine DW_nil ?_ | refine DW_lits tabOK rfl rfl rfl rfl rfl rfl rfl rfl rfl rfl rfl rfl rfl ?_ | refine DW_pure rfl rfl rfl rfl rfl k ?_ | refine DW_append_own tabOK rfl rfl rfl rfl rfl rfl rfl rfl rfl rfl rfl rfl rfl rfl rfl (by simp; omega) (by simp; omega) ?_) | (show W _ _ _ _ _ _; first | refine W_seq ?_ | refine W_text rfl (fun _ _ _ h => h) ?_ | refine W_block ?_ | refine W_skip ?_ | refine W_exit ?_ | refine W_ret ?_ | refine W_true rfl ?_ | refine W_false rfl ?_ | refine W_cond rfl (fun _ => ?_) (fun _ => ?_)))
      refine DW_index tabOK rfl rfl rfl rfl rfl rfl rfl rfl rfl rfl (Int.natCast_nonneg _) (map_get hx) ?_
      repeat' (first | (show DW _ _ _ _ _ _ _ _; first | refine DW_V tabs rfl rfl rfl rfl (congrArg AV.bool d0) ?_ | refine DW_V tabs rfl rfl rfl rfl (congrArg (AV.int _) la) ?_ | refine DW_V tabs rfl rfl rfl rfl (congrArg (AV.int _) e1) ?_ | refine DW_A tabs rfl ?_ | refine DW_nil ?_ | refine DW_lits tabOK rfl rfl rfl rfl rfl rfl rfl rfl rfl rfl rfl rfl rfl ?_ | refine DW_append_own tabOK rfl rfl rfl rfl rfl rfl rfl rfl rfl rfl rfl rfl rfl rfl rfl (by simp; omega) (by simp; omega) ?_) | (show W _ _ _ _ _ _; first | refine W_seq ?_ | refine W_text rfl (fun _ _ _ h => h) ?_ | refine W_block ?_ | refine W_skip ?_ | refine W_exit ?_ | refine W_ret ?_ | refine W_true rfl ?_ | refine W_false rfl ?_ | refine W_cond rfl (fun _ => ?_) (fun _ => ?_)))
      exact ⟨rfl, _, rfl, rfl, rfl⟩

theorem rDepth_ok (s : Bytes) (hs : s.length < 99999) : APure Tryd.prog 37 [.str s] (.int .i64 (rdepthB s)) := by
  intro M
  refine acalls_of tabOK Tryd.func37 rfl (by decide) (by simp [Tryd.f37]) ?_
  have k := names_ok s (by omega)
  unfold rdepthB
  generalize namesB s = z at k
  obtain ⟨l, b⟩ := z
  have la : ((l.map AV.str).length : Int) = (l.length : Int) := by simp
  cases b
  · repeat' (first | (show DW _ _ _ _ _ _ _ _; first | refine DW_V tabs rfl rfl rfl rfl (congrArg (AV.int _) la) ?_ | refine DW_A tabs rfl ?_ | refine DW_nil ?_ | refine DW_lits tabOK rfl rfl rfl rfl rfl rfl rfl rfl rfl rfl rfl rfl rfl ?_ | refine DW_pure rfl rfl rfl rfl rfl k ?_ | refine DW_append_own tabOK rfl rfl rfl rfl rfl rfl rfl rfl rfl rfl rfl rfl rfl rfl rfl (by simp; omega) (by simp; omega) ?_) | (show W _ _ _ _ _ _; first | refine W_seq ?_ | refine W_text rfl (fun _ _ _ h => h) ?_ | refine W_block ?_ | refine W_skip ?_ | refine W_exit ?_ | refine W_ret ?_ | refine W_true rfl ?_ | refine W_false rfl ?_ | refine W_cond rfl (fun _ => ?_) (fun _ => ?_)))
    exact ⟨rfl, _, rfl, rfl, rfl⟩
  · repeat' (first | (show DW _ _ _ _ _ _ _ _; first | refine DW_V tabs rfl rfl rfl rfl (congrArg (AV.int _) la) ?_ | refine DW_A tabs rfl ?_ | refine DW_nil ?_ | refine DW_lits tabOK rfl rfl rfl rfl rfl rfl rfl rfl rfl rfl rfl rfl rfl ?_ | refine DW_pure rfl rfl rfl rfl rfl k ?_ | refine DW_append_own tabOK rfl rfl rfl rfl rfl rfl rfl rfl rfl rfl rfl rfl rfl rfl rfl (by simp; omega) (by simp; omega) ?_) | (show W _ _ _ _ _ _; first | refine W_seq ?_ | refine W_text rfl (fun _ _ _ h => h) ?_ | refine W_block ?_ | refine W_skip ?_ | refine W_exit ?_ | refine W_ret ?_ | refine W_true rfl ?_ | refine W_false rfl ?_ | refine W_cond rfl (fun _ => ?_) (fun _ => ?_)))
    exact ⟨rfl, _, rfl, rfl, rfl⟩

def runderB (d s : Bytes) : Bool := (namesB d).2 && (namesB s).2 && decide ((namesB d).1.length ≤ (namesB s).1.length) && ((namesB d).1 == (namesB s).1.take (namesB d).1.length)

set_option maxRecDepth 100000 in
theorem rUnder_ok (d s : Bytes) (hd : d.length < 99999) (hs : s.length < 99999) : APure Tryd.prog 38 [.str d, .str s] (.bool (runderB d s)) := by
  intro M
  refine acalls_of tabOK Tryd.func38 rfl (by decide) (by simp [Tryd.f38]) ?_
  have k1 := names_ok d (by omega)
  have k2 := names_ok s (by omega)
  have hsm := names_small d (by omega)
  unfold runderB
  generalize namesB d = z1 at k1 hsm
  generalize namesB s = z2 at k2
  obtain ⟨a, b1⟩ := z1
  obtain ⟨b, b2⟩ := z2
  simp only at hsm
  have la : ((a.map AV.str).length : Int) = (a.length : Int) := by simp
  have lb : ((b.map AV.str).length : Int) = (b.length : Int) := by simp
  cases b1
  · repeat' (first | (show DW _ _ _ _ _ _ _ _; first | refine DW_V tabs rfl rfl rfl rfl (congrArg (AV.int _) la) ?_ | refine DW_V tabs rfl rfl rfl rfl (congrArg (AV.int _) lb) ?_ | refine DW_A tabs rfl ?_ | refine DW_nil ?_ | refine DW_lits tabOK rfl rfl rfl rfl rfl rfl rfl rfl rfl rfl rfl rfl rfl ?_ | refine DW_pure rfl rfl rfl rfl rfl k1 ?_ | refine DW_pure rfl rfl rfl rfl rfl k2 ?_ | refine DW_append_own tabOK rfl rfl rfl rfl rfl rfl rfl rfl rfl rfl rfl rfl rfl rfl rfl (by simp; omega) (by simp; omega) ?_) | (show W _ _ _ _ _ _; first | refine W_seq ?_ | refine W_text rfl (fun _ _ _ h => h) ?_ | refine W_block ?_ | refine W_skip ?_ | refine W_exit ?_ | refine W_ret ?_ | refine W_true rfl ?_ | refine W_false rfl ?_ | refine W_cond rfl (fun _ => ?_) (fun _ => ?_) | refine W_draw mixed [0, 1, 4, 5, 2, 3, 6, 7, 8] [.P, .P, .R, .R, .P, .P, .R, .R, .P] rfl rfl (by kernel_rfl) ?_))
    exact ⟨rfl, _, rfl, rfl, rfl⟩
  · cases b2
    · repeat' (first | (show DW _ _ _ _ _ _ _ _; first | refine DW_V tabs rfl rfl rfl rfl (congrArg (AV.int _) la) ?_ | refine DW_V tabs rfl rfl rfl rfl (congrArg (AV.int _) lb) ?_ | refine DW_A tabs rfl ?_ | refine DW_nil ?_ | refine DW_lits tabOK rfl rfl rfl rfl rfl rfl rfl rfl rfl rfl rfl rfl rfl ?_ | refine DW_pure rfl rfl rfl rfl rfl k1 ?_ | refine DW_pure rfl rfl rfl rfl rfl k2 ?_ | refine DW_append_own tabOK rfl rfl rfl rfl rfl rfl rfl rfl rfl rfl rfl rfl rfl rfl rfl (by simp; omega) (by simp; omega) ?_) | (show W _ _ _ _ _ _; first | refine W_seq ?_ | refine W_text rfl (fun _ _ _ h => h) ?_ | refine W_block ?_ | refine W_skip ?_ | refine W_exit ?_ | refine W_ret ?_ | refine W_true rfl ?_ | refine W_false rfl ?_ | refine W_cond rfl (fun _ => ?_) (fun _ => ?_) | refine W_draw mixed [0, 1, 4, 5, 2, 3, 6, 7, 8] [.P, .P, .R, .R, .P, .P, .R, .R, .P] rfl rfl (by kernel_rfl) ?_))
      exact ⟨rfl, _, rfl, rfl, rfl⟩
    · by_cases h1 : a.length ≤ b.length
      · have d1 : decide ((b.length : Int) < (a.length : Int)) = false := by simp; omega
        have e1 : decide (a.length ≤ b.length) = true := by simp [h1]
        rw [e1]
        repeat' (first | (show DW _ _ _ _ _ _ _ _; first | refine DW_V tabs rfl rfl rfl rfl (congrArg AV.bool d1) ?_ | refine DW_V tabs rfl rfl rfl rfl (congrArg (AV.int _) la) ?_ | refine DW_V tabs rfl rfl rfl rfl (congrArg (AV.int _) lb) ?_ | refine DW_A tabs rfl ?_ | refine DW_nil ?_ | refine DW_lits tabOK rfl rfl rfl rfl rfl rfl rfl rfl rfl rfl rfl rfl rfl ?_ | refine DW_pure rfl rfl rfl rfl rfl k1 ?_ | refine DW_pure rfl rfl rfl rfl rfl k2 ?_ | refine DW_append_own tabOK rfl rfl rfl rfl rfl rfl rfl rfl rfl rfl rfl rfl rfl rfl rfl (by simp; omega) (by simp; omega) ?_) | (show W _ _ _ _ _ _; first | refine W_seq ?_ | refine W_text rfl (fun _ _ _ h => h) ?_ | refine W_block ?_ | refine W_skip ?_ | refine W_exit ?_ | refine W_ret ?_ | refine W_true rfl ?_ | refine W_false rfl ?_ | refine W_cond rfl (fun _ => ?_) (fun _ => ?_) | refine W_draw mixed [0, 1, 4, 5, 2, 3, 6, 7, 8] [.P, .P, .R, .R, .P, .P, .R, .R, .P] rfl rfl (by kernel_rfl) ?_))
        refine W_count a.length (fun i f N => N = M ∧ a.take i = b.take i ∧ f = ⟨[(5, .sl 1 (a.map AV.str) .none), (7, .sl 1 (b.map AV.str) .none), (9, .int .i64 (i : Int))], []⟩) (Nat.zero_le _) ⟨rfl, rfl, rfl⟩ (Joint.le ?_ (Mem.le_refl _)) ?_
        · skip
          repeat (refine AF.le_cons rfl ?_)
          exact AF.le_nil rfl
        · rintro i f N hi ⟨rfl, hpre, rfl⟩
          by_cases h2 : i < a.length
          · have d2 : decide ((i : Int) < (a.length : Int)) = true := by simp; omega
            have hx : a[i]? = some a[i] := List.getElem?_eq_getElem h2
            have hy : b[i]? = some b[i] := List.getElem?_eq_getElem (by omega)
            have fi := wrap_succ (i := i) (by omega)
            have ht1 := take_succ hx
            have ht2 := take_succ hy
            generalize a[i] = p at hx ht1
            generalize b[i] = q at hy ht2
            by_cases h3 : p = q
            · subst h3
              have d3 : (!(p == p)) = false := by simp
              repeat' (first | (show DW _ _ _ _ _ _ _ _; first | refine DW_V tabs rfl rfl rfl rfl (congrArg AV.bool d2) ?_ | refine DW_V tabs rfl rfl rfl rfl (congrArg (AV.int _) la) ?_ | refine DW_V tabs rfl rfl rfl rfl (congrArg (AV.int _) lb) ?_ | refine DW_V tabs rfl rfl rfl rfl (congrArg (AV.int _) fi) ?_ | refine DW_A tabs rfl ?_ | refine DW_nil ?_ | refine DW_lits tabOK rfl rfl rfl rfl rfl rfl rfl rfl rfl rfl rfl rfl rfl ?_ | refine DW_append_own tabOK rfl rfl rfl rfl rfl rfl rfl rfl rfl rfl rfl rfl rfl rfl rfl (by simp; omega) (by simp; omega) ?_) | (show W _ _ _ _ _ _; first | refine W_seq ?_ | refine W_text rfl (fun _ _ _ h => h) ?_ | refine W_block ?_ | refine W_skip ?_ | refine W_exit ?_ | refine W_ret ?_ | refine W_true rfl ?_ | refine W_false rfl ?_ | refine W_cond rfl (fun _ => ?_) (fun _ => ?_) | refine W_draw mixed [0, 1, 4, 5, 2, 3, 6, 7, 8] [.P, .P, .R, .R, .P, .P, .R, .R, .P] rfl rfl (by kernel_rfl) ?_))
              refine DW_index tabOK rfl rfl rfl rfl rfl rfl rfl rfl rfl rfl (Int.natCast_nonneg _) (map_get hx) ?_
              repeat' (first | (show DW _ _ _ _ _ _ _ _; first | refine DW_V tabs rfl rfl rfl rfl (congrArg AV.bool d2) ?_ | refine DW_V tabs rfl rfl rfl rfl (congrArg (AV.int _) la) ?_ | refine DW_V tabs rfl rfl rfl rfl (congrArg (AV.int _) lb) ?_ | refine DW_V tabs rfl rfl rfl rfl (congrArg (AV.int _) fi) ?_ | refine DW_A tabs rfl ?_ | refine DW_nil ?_ | refine DW_lits tabOK rfl rfl rfl rfl rfl rfl rfl rfl rfl rfl rfl rfl rfl ?_ | refine DW_append_own tabOK rfl rfl rfl rfl rfl rfl rfl rfl rfl rfl rfl rfl rfl rfl rfl (by simp; omega) (by simp; omega) ?_) | (show W _ _ _ _ _ _; first | refine W_seq ?_ | refine W_text rfl (fun _ _ _ h => h) ?_ | refine W_block ?_ | refine W_skip ?_ | refine W_exit ?_ | refine W_ret ?_ | refine W_true rfl ?_ | refine W_false rfl ?_ | refine W_cond rfl (fun _ => ?_) (fun _ => ?_) | refine W_draw mixed [0, 1, 4, 5, 2, 3, 6, 7, 8] [.P, .P, .R, .R, .P, .P, .R, .R, .P] rfl rfl (by kernel_rfl) ?_))
              refine DW_index tabOK rfl rfl rfl rfl rfl rfl rfl rfl rfl rfl (Int.natCast_nonneg _) (map_get hy) ?_
              repeat' (first | (show DW _ _ _ _ _ _ _ _; first | refine DW_V tabs rfl rfl rfl rfl (congrArg AV.bool d3) ?_ | refine DW_V tabs rfl rfl rfl rfl (congrArg (AV.int _) la) ?_ | refine DW_V tabs rfl rfl rfl rfl (congrArg (AV.int _) lb) ?_ | refine DW_V tabs rfl rfl rfl rfl (congrArg (AV.int _) fi) ?_ | refine DW_A tabs rfl ?_ | refine DW_nil ?_ | refine DW_lits tabOK rfl rfl rfl rfl rfl rfl rfl rfl rfl rfl rfl rfl rfl ?_ | refine DW_append_own tabOK rfl rfl rfl rfl rfl rfl rfl rfl rfl rfl rfl rfl rfl rfl rfl (by simp; omega) (by simp; omega) ?_) | (show W _ _ _ _ _ _; first | refine W_seq ?_ | refine W_text rfl (fun _ _ _ h => h) ?_ | refine W_block ?_ | refine W_skip ?_ | refine W_exit ?_ | refine W_ret ?_ | refine W_true rfl ?_ | refine W_false rfl ?_ | refine W_cond rfl (fun _ => ?_) (fun _ => ?_) | refine W_draw mixed [0, 1, 4, 5, 2, 3, 6, 7, 8] [.P, .P, .R, .R, .P, .P, .R, .R, .P] rfl rfl (by kernel_rfl) ?_))
              refine ⟨h2, _, _, ⟨rfl, by rw [ht1, ht2, hpre], rfl⟩, Joint.le ?_ (Mem.le_refl _)⟩
              repeat (refine AF.le_cons rfl ?_)
              exact AF.le_nil rfl
            · have d3 : (!(p == q)) = true := by simp [h3]
              have hne : (a == b.take a.length) = false := by
                cases hc : a == b.take a.length
                · rfl
                · exfalso
                  have hc' : a = b.take a.length := by simpa using hc
                  have : a[i]? = b[i]? := by
                    rw [hc', List.getElem?_take, if_pos h2]
                  rw [hx, hy] at this
                  exact h3 (Option.some.inj this)
              rw [hne]
              repeat' (first | (show DW _ _ _ _ _ _ _ _; first | refine DW_V tabs rfl rfl rfl rfl (congrArg AV.bool d2) ?_ | refine DW_V tabs rfl rfl rfl rfl (congrArg (AV.int _) la) ?_ | refine DW_V tabs rfl rfl rfl rfl (congrArg (AV.int _) lb) ?_ | refine DW_V tabs rfl rfl rfl rfl (congrArg (AV.int _) fi) ?_ | refine DW_A tabs rfl ?_ | refine DW_nil ?_ | refine DW_lits tabOK rfl rfl rfl rfl rfl rfl rfl rfl rfl rfl rfl rfl rfl ?_ | refine DW_append_own tabOK rfl rfl rfl rfl rfl rfl rfl rfl rfl rfl rfl rfl rfl rfl rfl (by simp; omega) (by simp; omega) ?_) | (show W _ _ _ _ _ _; first | refine W_seq ?_ | refine W_text rfl (fun _ _ _ h => h) ?_ | refine W_block ?_ | refine W_skip ?_ | refine W_exit ?_ | refine W_ret ?_ | refine W_true rfl ?_ | refine W_false rfl ?_ | refine W_cond rfl (fun _ => ?_) (fun _ => ?_) | refine W_draw mixed [0, 1, 4, 5, 2, 3, 6, 7, 8] [.P, .P, .R, .R, .P, .P, .R, .R, .P] rfl rfl (by kernel_rfl) ?_))
              refine DW_index tabOK rfl rfl rfl rfl rfl rfl rfl rfl rfl rfl (Int.natCast_nonneg _) (map_get hx) ?_
              repeat' (first | (show DW _ _ _ _ _ _ _ _; first | refine DW_V tabs rfl rfl rfl rfl (congrArg AV.bool d2) ?_ | refine DW_V tabs rfl rfl rfl rfl (congrArg (AV.int _) la) ?_ | refine DW_V tabs rfl rfl rfl rfl (congrArg (AV.int _) lb) ?_ | refine DW_V tabs rfl rfl rfl rfl (congrArg (AV.int _) fi) ?_ | refine DW_A tabs rfl ?_ | refine DW_nil ?_ | refine DW_lits tabOK rfl rfl rfl rfl rfl rfl rfl rfl rfl rfl rfl rfl rfl ?_ | refine DW_append_own tabOK rfl rfl rfl rfl rfl rfl rfl rfl rfl rfl rfl rfl rfl rfl rfl (by simp; omega) (by simp; omega) ?_) | (show W _ _ _ _ _ _; first | refine W_seq ?_ | refine W_text rfl (fun _ _ _ h => h) ?_ | refine W_block ?_ | refine W_skip ?_ | refine W_exit ?_ | refine W_ret ?_ | refine W_true rfl ?_ | refine W_false rfl ?_ | refine W_cond rfl (fun _ => ?_) (fun _ => ?_) | refine W_draw mixed [0, 1, 4, 5, 2, 3, 6, 7, 8] [.P, .P, .R, .R, .P, .P, .R, .R, .P] rfl rfl (by kernel_rfl) ?_))
              refine DW_index tabOK rfl rfl rfl rfl rfl rfl rfl rfl rfl rfl (Int.natCast_nonneg _) (map_get hy) ?_
              repeat' (first | (show DW _ _ _ _ _ _ _ _; first | refine DW_V tabs rfl rfl rfl rfl (congrArg AV.bool d3) ?_ | refine DW_V tabs rfl rfl rfl rfl (congrArg (AV.int _) la) ?_ | refine DW_V tabs rfl rfl rfl rfl (congrArg (AV.int _) lb) ?_ | refine DW_V tabs rfl rfl rfl rfl (congrArg (AV.int _) fi) ?_ | refine DW_A tabs rfl ?_ | refine DW_nil ?_ | refine DW_lits tabOK rfl rfl rfl rfl rfl rfl rfl rfl rfl rfl rfl rfl rfl ?_ | refine DW_append_own tabOK rfl rfl rfl rfl rfl rfl rfl rfl rfl rfl rfl rfl rfl rfl rfl (by simp; omega) (by simp; omega) ?_) | (show W _ _ _ _ _ _; first | refine W_seq ?_ | refine W_text rfl (fun _ _ _ h => h) ?_ | refine W_block ?_ | refine W_skip ?_ | refine W_exit ?_ | refine W_ret ?_ | refine W_true rfl ?_ | refine W_false rfl ?_ | refine W_cond rfl (fun _ => ?_) (fun _ => ?_) | refine W_draw mixed [0, 1, 4, 5, 2, 3, 6, 7, 8] [.P, .P, .R, .R, .P, .P, .R, .R, .P] rfl rfl (by kernel_rfl) ?_))
              exact ⟨rfl, _, rfl, rfl, rfl⟩
          · have d2 : decide ((i : Int) < (a.length : Int)) = false := by simp; omega
            obtain rfl : i = a.length := by omega
            rw [List.take_length] at hpre
            have he : (a == b.take a.length) = true := by rw [← hpre]; simp
            rw [he]
            repeat' (first | (show DW _ _ _ _ _ _ _ _; first | refine DW_V tabs rfl rfl rfl rfl (congrArg AV.bool d2) ?_ | refine DW_V tabs rfl rfl rfl rfl (congrArg (AV.int _) la) ?_ | refine DW_V tabs rfl rfl rfl rfl (congrArg (AV.int _) lb) ?_ | refine DW_A tabs rfl ?_ | refine DW_nil ?_ | refine DW_lits tabOK rfl rfl rfl rfl rfl rfl rfl rfl rfl rfl rfl rfl rfl ?_ | refine DW_append_own tabOK rfl rfl rfl rfl rfl rfl rfl rfl rfl rfl rfl rfl rfl rfl rfl (by simp; omega) (by simp; omega) ?_) | (show W _ _ _ _ _ _; first | refine W_seq ?_ | refine W_text rfl (fun _ _ _ h => h) ?_ | refine W_block ?_ | refine W_skip ?_ | refine W_exit ?_ | refine W_ret ?_ | refine W_true rfl ?_ | refine W_false rfl ?_ | refine W_cond rfl (fun _ => ?_) (fun _ => ?_) | refine W_draw mixed [0, 1, 4, 5, 2, 3, 6, 7, 8] [.P, .P, .R, .R, .P, .P, .R, .R, .P] rfl rfl (by kernel_rfl) ?_))
            exact ⟨rfl, _, rfl, rfl, rfl⟩
      · have d1 : decide ((b.length : Int) < (a.length : Int)) = true := by simp; omega
        have e1 : decide (a.length ≤ b.length) = false := by simp; omega
        rw [e1]
        repeat' (first | (show DW _ _ _ _ _ _ _ _; first | refine DW_V tabs rfl rfl rfl rfl (congrArg AV.bool d1) ?_ | refine DW_V tabs rfl rfl rfl rfl (congrArg (AV.int _) la) ?_ | refine DW_V tabs rfl rfl rfl rfl (congrArg (AV.int _) lb) ?_ | refine DW_A tabs rfl ?_ | refine DW_nil ?_ | refine DW_lits tabOK rfl rfl rfl rfl rfl rfl rfl rfl rfl rfl rfl rfl rfl ?_ | refine DW_pure rfl rfl rfl rfl rfl k1 ?_ | refine DW_pure rfl rfl rfl rfl rfl k2 ?_ | refine DW_append_own tabOK rfl rfl rfl rfl rfl rfl rfl rfl rfl rfl rfl rfl rfl rfl rfl (by simp; omega) (by simp; omega) ?_) | (show W _ _ _ _ _ _; first | refine W_seq ?_ | refine W_text rfl (fun _ _ _ h => h) ?_ | refine W_block ?_ | refine W_skip ?_ | refine W_exit ?_ | refine W_ret ?_ | refine W_true rfl ?_ | refine W_false rfl ?_ | refine W_cond rfl (fun _ => ?_) (fun _ => ?_) | refine W_draw mixed [0, 1, 4, 5, 2, 3, 6, 7, 8] [.P, .P, .R, .R, .P, .P, .R, .R, .P] rfl rfl (by kernel_rfl) ?_))
        exact ⟨rfl, _, rfl, rfl, rfl⟩
end Go.Proofs.YteimhnedflbkmaaDoor
