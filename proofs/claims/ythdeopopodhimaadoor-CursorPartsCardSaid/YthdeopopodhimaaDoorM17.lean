/- Parts of the proof, one behind the other: UnderA, AbF2. No further condition. -/
import Derived.Test.YthdeopopodhimaaDoorM16
import Derived.Test.YthdeopopodhimaaDoorM14
set_option linter.unusedVariables false
set_option linter.unusedSimpArgs false
/- path.Under and the document's Under are one; what is under what. No further condition. -/
set_option linter.unusedVariables false
set_option linter.unusedSimpArgs false
namespace Go.Proofs.YthdeopopodhimaaDoor
open Go.Ab

/- The document's joins, parents, last names and depths tell what their texts say. No further condition. -/
theorem glueL_cons (sep x : Bytes) {r : List Bytes} (h : r ≠ []) : glueL sep (x :: r) = x ++ sep ++ glueL sep r := by
  cases r with
  | nil => exact absurd rfl h
  | cons y r => rfl
/- What paths are, in plain words: parts, glue, Norm. No further condition. -/
theorem splitOn_app (c : UInt8) (y : Bytes) : ∀ x : Bytes, splitOn c (x ++ c :: y) = splitOn c x ++ splitOn c y
  | [] => by
    show splitOn c (c :: y) = _
    have : splitOn c (c :: y) = [] :: splitOn c y := by rw [splitOn, if_pos rfl]
    rw [this]; rfl
  | b :: l => by
    have ih := splitOn_app c y l
    show splitOn c (b :: (l ++ c :: y)) = splitOn c (b :: l) ++ _
    rw [splitOn, ih, splitOn]
    by_cases hb : b = c
    · rw [if_pos hb, if_pos hb]; rfl
    · rw [if_neg hb, if_neg hb]
      cases h : splitOn c l with
      | nil => exact absurd h (splitOn_ne c l)
      | cons p r => rfl
theorem glue_split (c : UInt8) : ∀ s : Bytes, glueL [c] (splitOn c s) = s
  | [] => rfl
  | b :: l => by
    have ih := glue_split c l
    rw [splitOn]
    by_cases hb : b = c
    · rw [if_pos hb, glueL_cons _ _ (splitOn_ne c l), ih]
      simp [hb]
    · rw [if_neg hb]
      cases h : splitOn c l with
      | nil => exact absurd h (splitOn_ne c l)
      | cons p r =>
        rw [h] at ih
        cases r with
        | nil =>
          simp only [glueL] at ih ⊢
          rw [ih]
        | cons q r =>
          show (b :: p) ++ [c] ++ glueL [c] (q :: r) = b :: l
          rw [← ih, glueL_cons _ p (r := q :: r) (by simp)]
          simp
theorem glue_app (c : UInt8) (y : List Bytes) (hy : y ≠ []) : ∀ x : List Bytes, x ≠ [] → glueL [c] (x ++ y) = glueL [c] x ++ c :: glueL [c] y
  | [], h => absurd rfl h
  | [p], _ => by
    show glueL [c] (p :: y) = _
    rw [glueL_cons _ _ hy]
    simp [glueL]
  | p :: q :: r, _ => by
    have ih := glue_app c y hy (q :: r) (by simp)
    show glueL [c] (p :: ((q :: r) ++ y)) = _
    rw [glueL_cons _ _ (by simp), ih, glueL_cons _ p (by simp : q :: r ≠ [])]
    simp
theorem isName_no {p : Bytes} (h : isNameB p = true) : p ≠ [] ∧ p ≠ [46] ∧ p ≠ [46, 46] ∧ ∀ b, b ∈ p → b ≠ 47 := by
  unfold isNameB at h
  simp only [Bool.and_eq_true, Bool.not_eq_true', beq_eq_false_iff_ne, ne_eq, List.any_eq_false, Bool.or_eq_true, beq_iff_eq, not_or] at h
  exact ⟨h.1.1.1.1, h.1.1.2, h.1.2, fun b hb => (h.2 b hb).1⟩
theorem path_iff (s : Bytes) : isPathB s = true ↔ s = [] ∨ ((∀ p, p ∈ splitOn 47 s → isNameB p = true) ∧ s.length ≤ 100) := by
  unfold isPathB
  simp [Bool.or_eq_true, Bool.and_eq_true]
theorem path_nil : isPathB [] = true := rfl
theorem path_len {s : Bytes} (h : isPathB s = true) : s.length ≤ 100 := by
  rcases (path_iff s).1 h with rfl | h
  · simp
  · exact h.2
theorem path_names {s : Bytes} (h : isPathB s = true) (h0 : s ≠ []) : ∀ p, p ∈ splitOn 47 s → isNameB p = true := by
  rcases (path_iff s).1 h with h | h
  · exact absurd h h0
  · exact h.1
theorem names_small (s : Bytes) (hs : s.length < 100000) : (namesB s).1.length < 100001 ∧ ∀ p, p ∈ (namesB s).1 → p.length ≤ 100000 := by
  have h := splitOn_len 47 s
  unfold namesB
  split
  · simp
  · split
    · exact ⟨by simp; omega, fun p hp => by have := h.2 p hp; omega⟩
    · simp
def runderB (d s : Bytes) : Bool := (namesB d).2 && (namesB s).2 && decide ((namesB d).1.length ≤ (namesB s).1.length) && ((namesB d).1 == (namesB s).1.take (namesB d).1.length)
set_option maxRecDepth 100000 in
theorem rUnder_ok (d s : Bytes) (hd : d.length < 99999) (hs : s.length < 99999) : APure Tryd.prog 33 [.str d, .str s] (.bool (runderB d s)) := by
  intro M
  refine acalls_of tabOK Tryd.func33 rfl (by decide) (by simp [Tryd.f33]) ?_
  have k1 := names_ok d (by omega)
  have k2 := names_ok s (by omega)
  have hsm := names_small d (by omega)
  unfold runderB
  generalize namesB d = z1 at k1 hsm
  generalize namesB s = z2 at k2
  obtain ⟨a, b1⟩ := z1
  obtain ⟨b, b2⟩ := z2
  simp only at hsm
  have la : ((a.map AV.str).length : Int) = (a.length : Int) := by simp
  have lb : ((b.map AV.str).length : Int) = (b.length : Int) := by simp
  cases b1
  · repeat' (first | (show DW _ _ _ _ _ _ _ _; first | refine DW_V tabs rfl rfl rfl rfl (congrArg (AV.int _) la) ?_ | refine DW_V tabs rfl rfl rfl rfl (congrArg (AV.int _) lb) ?_ | refine DW_A tabs rfl ?_ | refine DW_nil ?_ | refine DW_lits tabOK rfl rfl rfl rfl rfl rfl rfl rfl rfl rfl rfl rfl rfl ?_ | refine DW_pure rfl rfl rfl rfl rfl k1 ?_ | refine DW_pure rfl rfl rfl rfl rfl k2 ?_ | refine DW_append_own tabOK rfl rfl rfl rfl rfl rfl rfl rfl rfl rfl rfl rfl rfl rfl rfl (by simp; omega) (by simp; omega) ?_) | (show W _ _ _ _ _ _; first | refine W_seq ?_ | refine W_text rfl (fun _ _ _ h => h) ?_ | refine W_block ?_ | refine W_skip ?_ | refine W_exit ?_ | refine W_ret ?_ | refine W_true rfl ?_ | refine W_false rfl ?_ | refine W_cond rfl (fun _ => ?_) (fun _ => ?_) | refine W_draw mixed [0, 1, 4, 5, 2, 3, 6, 7, 8] [.P, .P, .R, .R, .P, .P, .R, .R, .P] rfl rfl (by kernel_rfl) ?_))
    exact ⟨rfl, _, rfl, rfl, rfl⟩
  · cases b2
    · repeat' (first | (show DW _ _ _ _ _ _ _ _; first | refine DW_V tabs rfl rfl rfl rfl (congrArg (AV.int _) la) ?_ | refine DW_V tabs rfl rfl rfl rfl (congrArg (AV.int _) lb) ?_ | refine DW_A tabs rfl ?_ | refine DW_nil ?_ | refine DW_lits tabOK rfl rfl rfl rfl rfl rfl rfl rfl rfl rfl rfl rfl rfl ?_ | refine DW_pure rfl rfl rfl rfl rfl k1 ?_ | refine DW_pure rfl rfl rfl rfl rfl k2 ?_ | refine DW_append_own tabOK rfl rfl rfl rfl rfl rfl rfl rfl rfl rfl rfl rfl rfl rfl rfl (by simp; omega) (by simp; omega) ?_) | (show W _ _ _ _ _ _; first | refine W_seq ?_ | refine W_text rfl (fun _ _ _ h => h) ?_ | refine W_block ?_ | refine W_skip ?_ | refine W_exit ?_ | refine W_ret ?_ | refine W_true rfl ?_ | refine W_false rfl ?_ | refine W_cond rfl (fun _ => ?_) (fun _ => ?_) | refine W_draw mixed [0, 1, 4, 5, 2, 3, 6, 7, 8] [.P, .P, .R, .R, .P, .P, .R, .R, .P] rfl rfl (by kernel_rfl) ?_))
      exact ⟨rfl, _, rfl, rfl, rfl⟩
    · by_cases h1 : a.length ≤ b.length
      · have d1 : decide ((b.length : Int) < (a.length : Int)) = false := by simp; omega
        have e1 : decide (a.length ≤ b.length) = true := by simp [h1]
        rw [e1]
        repeat' (first | (show DW _ _ _ _ _ _ _ _; first | refine DW_V tabs rfl rfl rfl rfl (congrArg AV.bool d1) ?_ | refine DW_V tabs rfl rfl rfl rfl (congrArg (AV.int _) la) ?_ | refine DW_V tabs rfl rfl rfl rfl (congrArg (AV.int _) lb) ?_ | refine DW_A tabs rfl ?_ | refine DW_nil ?_ | refine DW_lits tabOK rfl rfl rfl rfl rfl rfl rfl rfl rfl rfl rfl rfl rfl ?_ | refine DW_pure rfl rfl rfl rfl rfl k1 ?_ | refine DW_pure rfl rfl rfl rfl rfl k2 ?_ | refine DW_append_own tabOK rfl rfl rfl rfl rfl rfl rfl rfl rfl rfl rfl rfl rfl rfl rfl (by simp; omega) (by simp; omega) ?_) | (show W _ _ _ _ _ _; first | refine W_seq ?_ | refine W_text rfl (fun _ _ _ h => h) ?_ | refine W_block ?_ | refine W_skip ?_ | refine W_exit ?_ | refine W_ret ?_ | refine W_true rfl ?_ | refine W_false rfl ?_ | refine W_cond rfl (fun _ => ?_) (fun _ => ?_) | refine W_draw mixed [0, 1, 4, 5, 2, 3, 6, 7, 8] [.P, .P, .R, .R, .P, .P, .R, .R, .P] rfl rfl (by kernel_rfl) ?_))
        refine W_count a.length (fun i f N => N = M ∧ a.take i = b.take i ∧ f = ⟨[(5, .sl 1 (a.map AV.str) .none), (7, .sl 1 (b.map AV.str) .none), (9, .int .i64 (i : Int))], []⟩) (Nat.zero_le _) ⟨rfl, rfl, rfl⟩ (Joint.le ?_ (Mem.le_refl _)) ?_
        · skip
          repeat (refine AF.le_cons rfl ?_)
          exact AF.le_nil rfl
        · rintro i f N hi ⟨rfl, hpre, rfl⟩
          by_cases h2 : i < a.length
          · have d2 : decide ((i : Int) < (a.length : Int)) = true := by simp; omega
            have hx : a[i]? = some a[i] := List.getElem?_eq_getElem h2
            have hy : b[i]? = some b[i] := List.getElem?_eq_getElem (by omega)
            have fi := wrap_succ (i := i) (by omega)
            have ht1 := take_succ hx
            have ht2 := take_succ hy
            generalize a[i] = p at hx ht1
            generalize b[i] = q at hy ht2
            by_cases h3 : p = q
            · subst h3
              have d3 : (!(p == p)) = false := by simp
              repeat' (first | (show DW _ _ _ _ _ _ _ _; first | refine DW_V tabs rfl rfl rfl rfl (congrArg AV.bool d2) ?_ | refine DW_V tabs rfl rfl rfl rfl (congrArg (AV.int _) la) ?_ | refine DW_V tabs rfl rfl rfl rfl (congrArg (AV.int _) lb) ?_ | refine DW_V tabs rfl rfl rfl rfl (congrArg (AV.int _) fi) ?_ | refine DW_A tabs rfl ?_ | refine DW_nil ?_ | refine DW_lits tabOK rfl rfl rfl rfl rfl rfl rfl rfl rfl rfl rfl rfl rfl ?_ | refine DW_append_own tabOK rfl rfl rfl rfl rfl rfl rfl rfl rfl rfl rfl rfl rfl rfl rfl (by simp; omega) (by simp; omega) ?_) | (show W _ _ _ _ _ _; first | refine W_seq ?_ | refine W_text rfl (fun _ _ _ h => h) ?_ | refine W_block ?_ | refine W_skip ?_ | refine W_exit ?_ | refine W_ret ?_ | refine W_true rfl ?_ | refine W_false rfl ?_ | refine W_cond rfl (fun _ => ?_) (fun _ => ?_) | refine W_draw mixed [0, 1, 4, 5, 2, 3, 6, 7, 8] [.P, .P, .R, .R, .P, .P, .R, .R, .P] rfl rfl (by kernel_rfl) ?_))
              refine DW_index tabOK rfl rfl rfl rfl rfl rfl rfl rfl rfl rfl (Int.natCast_nonneg _) (map_get hx) ?_
              repeat' (first | (show DW _ _ _ _ _ _ _ _; first | refine DW_V tabs rfl rfl rfl rfl (congrArg AV.bool d2) ?_ | refine DW_V tabs rfl rfl rfl rfl (congrArg (AV.int _) la) ?_ | refine DW_V tabs rfl rfl rfl rfl (congrArg (AV.int _) lb) ?_ | refine DW_V tabs rfl rfl rfl rfl (congrArg (AV.int _) fi) ?_ | refine DW_A tabs rfl ?_ | refine DW_nil ?_ | refine DW_lits tabOK rfl rfl rfl rfl rfl rfl rfl rfl rfl rfl rfl rfl rfl ?_ | refine DW_append_own tabOK rfl rfl rfl rfl rfl rfl rfl rfl rfl rfl rfl rfl rfl rfl rfl (by simp; omega) (by simp; omega) ?_) | (show W _ _ _ _ _ _; first | refine W_seq ?_ | refine W_text rfl (fun _ _ _ h => h) ?_ | refine W_block ?_ | refine W_skip ?_ | refine W_exit ?_ | refine W_ret ?_ | refine W_true rfl ?_ | refine W_false rfl ?_ | refine W_cond rfl (fun _ => ?_) (fun _ => ?_) | refine W_draw mixed [0, 1, 4, 5, 2, 3, 6, 7, 8] [.P, .P, .R, .R, .P, .P, .R, .R, .P] rfl rfl (by kernel_rfl) ?_))
              refine DW_index tabOK rfl rfl rfl rfl rfl rfl rfl rfl rfl rfl (Int.natCast_nonneg _) (map_get hy) ?_
              repeat' (first | (show DW _ _ _ _ _ _ _ _; first | refine DW_V tabs rfl rfl rfl rfl (congrArg AV.bool d3) ?_ | refine DW_V tabs rfl rfl rfl rfl (congrArg (AV.int _) la) ?_ | refine DW_V tabs rfl rfl rfl rfl (congrArg (AV.int _) lb) ?_ | refine DW_V tabs rfl rfl rfl rfl (congrArg (AV.int _) fi) ?_ | refine DW_A tabs rfl ?_ | refine DW_nil ?_ | refine DW_lits tabOK rfl rfl rfl rfl rfl rfl rfl rfl rfl rfl rfl rfl rfl ?_ | refine DW_append_own tabOK rfl rfl rfl rfl rfl rfl rfl rfl rfl rfl rfl rfl rfl rfl rfl (by simp; omega) (by simp; omega) ?_) | (show W _ _ _ _ _ _; first | refine W_seq ?_ | refine W_text rfl (fun _ _ _ h => h) ?_ | refine W_block ?_ | refine W_skip ?_ | refine W_exit ?_ | refine W_ret ?_ | refine W_true rfl ?_ | refine W_false rfl ?_ | refine W_cond rfl (fun _ => ?_) (fun _ => ?_) | refine W_draw mixed [0, 1, 4, 5, 2, 3, 6, 7, 8] [.P, .P, .R, .R, .P, .P, .R, .R, .P] rfl rfl (by kernel_rfl) ?_))
              refine ⟨h2, _, _, ⟨rfl, by rw [ht1, ht2, hpre], rfl⟩, Joint.le ?_ (Mem.le_refl _)⟩
              repeat (refine AF.le_cons rfl ?_)
              exact AF.le_nil rfl
            · have d3 : (!(p == q)) = true := by simp [h3]
              have hne : (a == b.take a.length) = false := by
                cases hc : a == b.take a.length
                · rfl
                · exfalso
                  have hc' : a = b.take a.length := by simpa using hc
                  have : a[i]? = b[i]? := by
                    rw [hc', List.getElem?_take, if_pos h2]
                  rw [hx, hy] at this
                  exact h3 (Option.some.inj this)
              rw [hne]
              repeat' (first | (show DW _ _ _ _ _ _ _ _; first | refine DW_V tabs rfl rfl rfl rfl (congrArg AV.bool d2) ?_ | refine DW_V tabs rfl rfl rfl rfl (congrArg (AV.int _) la) ?_ | refine DW_V tabs rfl rfl rfl rfl (congrArg (AV.int _) lb) ?_ | refine DW_V tabs rfl rfl rfl rfl (congrArg (AV.int _) fi) ?_ | refine DW_A tabs rfl ?_ | refine DW_nil ?_ | refine DW_lits tabOK rfl rfl rfl rfl rfl rfl rfl rfl rfl rfl rfl rfl rfl ?_ | refine DW_append_own tabOK rfl rfl rfl rfl rfl rfl rfl rfl rfl rfl rfl rfl rfl rfl rfl (by simp; omega) (by simp; omega) ?_) | (show W _ _ _ _ _ _; first | refine W_seq ?_ | refine W_text rfl (fun _ _ _ h => h) ?_ | refine W_block ?_ | refine W_skip ?_ | refine W_exit ?_ | refine W_ret ?_ | refine W_true rfl ?_ | refine W_false rfl ?_ | refine W_cond rfl (fun _ => ?_) (fun _ => ?_) | refine W_draw mixed [0, 1, 4, 5, 2, 3, 6, 7, 8] [.P, .P, .R, .R, .P, .P, .R, .R, .P] rfl rfl (by kernel_rfl) ?_))
              refine DW_index tabOK rfl rfl rfl rfl rfl rfl rfl rfl rfl rfl (Int.natCast_nonneg _) (map_get hx) ?_
              repeat' (first | (show DW _ _ _ _ _ _ _ _; first | refine DW_V tabs rfl rfl rfl rfl (congrArg AV.bool d2) ?_ | refine DW_V tabs rfl rfl rfl rfl (congrArg (AV.int _) la) ?_ | refine DW_V tabs rfl rfl rfl rfl (congrArg (AV.int _) lb) ?_ | refine DW_V tabs rfl rfl rfl rfl (congrArg (AV.int _) fi) ?_ | refine DW_A tabs rfl ?_ | refine DW_nil ?_ | refine DW_lits tabOK rfl rfl rfl rfl rfl rfl rfl rfl rfl rfl rfl rfl rfl ?_ | refine DW_append_own tabOK rfl rfl rfl rfl rfl rfl rfl rfl rfl rfl rfl rfl rfl rfl rfl (by simp; omega) (by simp; omega) ?_) | (show W _ _ _ _ _ _; first | refine W_seq ?_ | refine W_text rfl (fun _ _ _ h => h) ?_ | refine W_block ?_ | refine W_skip ?_ | refine W_exit ?_ | refine W_ret ?_ | refine W_true rfl ?_ | refine W_false rfl ?_ | refine W_cond rfl (fun _ => ?_) (fun _ => ?_) | refine W_draw mixed [0, 1, 4, 5, 2, 3, 6, 7, 8] [.P, .P, .R, .R, .P, .P, .R, .R, .P] rfl rfl (by kernel_rfl) ?_))
              refine DW_index tabOK rfl rfl rfl rfl rfl rfl rfl rfl rfl rfl (Int.natCast_nonneg _) (map_get hy) ?_
              repeat' (first | (show DW _ _ _ _ _ _ _ _; first | refine DW_V tabs rfl rfl rfl rfl (congrArg AV.bool d3) ?_ | refine DW_V tabs rfl rfl rfl rfl (congrArg (AV.int _) la) ?_ | refine DW_V tabs rfl rfl rfl rfl (congrArg (AV.int _) lb) ?_ | refine DW_V tabs rfl rfl rfl rfl (congrArg (AV.int _) fi) ?_ | refine DW_A tabs rfl ?_ | refine DW_nil ?_ | refine DW_lits tabOK rfl rfl rfl rfl rfl rfl rfl rfl rfl rfl rfl rfl rfl ?_ | refine DW_append_own tabOK rfl rfl rfl rfl rfl rfl rfl rfl rfl rfl rfl rfl rfl rfl rfl (by simp; omega) (by simp; omega) ?_) | (show W _ _ _ _ _ _; first | refine W_seq ?_ | refine W_text rfl (fun _ _ _ h => h) ?_ | refine W_block ?_ | refine W_skip ?_ | refine W_exit ?_ | refine W_ret ?_ | refine W_true rfl ?_ | refine W_false rfl ?_ | refine W_cond rfl (fun _ => ?_) (fun _ => ?_) | refine W_draw mixed [0, 1, 4, 5, 2, 3, 6, 7, 8] [.P, .P, .R, .R, .P, .P, .R, .R, .P] rfl rfl (by kernel_rfl) ?_))
              exact ⟨rfl, _, rfl, rfl, rfl⟩
          · have d2 : decide ((i : Int) < (a.length : Int)) = false := by simp; omega
            obtain rfl : i = a.length := by omega
            rw [List.take_length] at hpre
            have he : (a == b.take a.length) = true := by rw [← hpre]; simp
            rw [he]
            repeat' (first | (show DW _ _ _ _ _ _ _ _; first | refine DW_V tabs rfl rfl rfl rfl (congrArg AV.bool d2) ?_ | refine DW_V tabs rfl rfl rfl rfl (congrArg (AV.int _) la) ?_ | refine DW_V tabs rfl rfl rfl rfl (congrArg (AV.int _) lb) ?_ | refine DW_A tabs rfl ?_ | refine DW_nil ?_ | refine DW_lits tabOK rfl rfl rfl rfl rfl rfl rfl rfl rfl rfl rfl rfl rfl ?_ | refine DW_append_own tabOK rfl rfl rfl rfl rfl rfl rfl rfl rfl rfl rfl rfl rfl rfl rfl (by simp; omega) (by simp; omega) ?_) | (show W _ _ _ _ _ _; first | refine W_seq ?_ | refine W_text rfl (fun _ _ _ h => h) ?_ | refine W_block ?_ | refine W_skip ?_ | refine W_exit ?_ | refine W_ret ?_ | refine W_true rfl ?_ | refine W_false rfl ?_ | refine W_cond rfl (fun _ => ?_) (fun _ => ?_) | refine W_draw mixed [0, 1, 4, 5, 2, 3, 6, 7, 8] [.P, .P, .R, .R, .P, .P, .R, .R, .P] rfl rfl (by kernel_rfl) ?_))
            exact ⟨rfl, _, rfl, rfl, rfl⟩
      · have d1 : decide ((b.length : Int) < (a.length : Int)) = true := by simp; omega
        have e1 : decide (a.length ≤ b.length) = false := by simp; omega
        rw [e1]
        repeat' (first | (show DW _ _ _ _ _ _ _ _; first | refine DW_V tabs rfl rfl rfl rfl (congrArg AV.bool d1) ?_ | refine DW_V tabs rfl rfl rfl rfl (congrArg (AV.int _) la) ?_ | refine DW_V tabs rfl rfl rfl rfl (congrArg (AV.int _) lb) ?_ | refine DW_A tabs rfl ?_ | refine DW_nil ?_ | refine DW_lits tabOK rfl rfl rfl rfl rfl rfl rfl rfl rfl rfl rfl rfl rfl ?_ | refine DW_pure rfl rfl rfl rfl rfl k1 ?_ | refine DW_pure rfl rfl rfl rfl rfl k2 ?_ | refine DW_append_own tabOK rfl rfl rfl rfl rfl rfl rfl rfl rfl rfl rfl rfl rfl rfl rfl (by simp; omega) (by simp; omega) ?_) | (show W _ _ _ _ _ _; first | refine W_seq ?_ | refine W_text rfl (fun _ _ _ h => h) ?_ | refine W_block ?_ | refine W_skip ?_ | refine W_exit ?_ | refine W_ret ?_ | refine W_true rfl ?_ | refine W_false rfl ?_ | refine W_cond rfl (fun _ => ?_) (fun _ => ?_) | refine W_draw mixed [0, 1, 4, 5, 2, 3, 6, 7, 8] [.P, .P, .R, .R, .P, .P, .R, .R, .P] rfl rfl (by kernel_rfl) ?_))
        exact ⟨rfl, _, rfl, rfl, rfl⟩
theorem names_path {s : Bytes} (h : isPathB s = true) (h0 : s ≠ []) : namesB s = (splitOn 47 s, true) := by
  have h1 := path_names h h0
  unfold namesB
  rw [if_neg h0, if_pos (by simpa using h1)]
  simp [path_len h]
theorem names_no {s : Bytes} (h : isPathB s = false) : (namesB s).2 = false := (namesB_is s).trans h
theorem under_is (d s : Bytes) : runderB d s = underB d s := by
  unfold runderB underB
  cases hd : isPathB d
  · rw [names_no hd]; rfl
  cases hs : isPathB s
  · rw [names_no hs]; simp
  rw [(namesB_is d).trans hd, (namesB_is s).trans hs]
  simp only [Bool.true_and]
  by_cases d0 : d = []
  · subst d0
    simp [namesB]
  · rw [names_path hd d0]
    by_cases s0 : s = []
    · subst s0
      have : splitOn 47 d ≠ [] := splitOn_ne 47 d
      have h1 : hasPre [] (d ++ [47]) = false := by simp [hasPre]
      have h2 : (d == []) = false := by simp [d0]
      have h3 : ((namesB []).1) = [] := rfl
      rw [h1, h2, h3]
      simp [this]
    · rw [names_path hs s0]
      have h2 : (d == []) = false := by simp [d0]
      rw [h2, Bool.eq_iff_iff]
      simp only [Bool.and_eq_true, decide_eq_true_eq, beq_iff_eq, Bool.or_eq_true, Bool.false_or]
      constructor
      · rintro ⟨h3, h4⟩
        have h5 := List.take_append_drop (splitOn 47 d).length (splitOn 47 s)
        rw [← h4] at h5
        cases h6 : List.drop (splitOn 47 d).length (splitOn 47 s) with
        | nil =>
          left
          rw [h6, List.append_nil] at h5
          rw [← glue_split 47 d, h5, glue_split]
        | cons a r =>
          right
          have h7 := glue_app 47 (a :: r) (by simp) (splitOn 47 d) (splitOn_ne 47 d)
          rw [← h6, h5, glue_split, glue_split] at h7
          rw [h7]
          have h8 : d ++ 47 :: glueL [47] (List.drop (splitOn 47 d).length (splitOn 47 s)) = (d ++ [47]) ++ glueL [47] (List.drop (splitOn 47 d).length (splitOn 47 s)) := by simp
          rw [h8]
          exact hasPre_app _ _
      · rintro (h3 | h3)
        · subst h3
          simp
        · have h4 := hasPre_is h3
          have h5 : s = d ++ 47 :: s.drop (d ++ [47]).length := by
            rw [List.append_assoc] at h4
            exact h4
          have h6 := splitOn_app 47 (s.drop (d ++ [47]).length) d
          rw [← h5] at h6
          rw [h6]
          simp
theorem under_self (a : Bytes) : underB a a = isPathB a := by
  unfold underB
  simp
theorem under_root (a : Bytes) : underB [] a = isPathB a := by
  unfold underB
  simp [path_nil]
theorem under_cases {d s : Bytes} (h : underB d s = true) : isPathB d = true ∧ isPathB s = true ∧ (d = [] ∨ d = s ∨ ∃ r, s = d ++ 47 :: r) := by
  unfold underB at h
  simp only [Bool.and_eq_true, Bool.or_eq_true, beq_iff_eq] at h
  refine ⟨h.1.1, h.1.2, ?_⟩
  rcases h.2 with (h | h) | h
  · exact .inl h
  · exact .inr (.inl h)
  · refine .inr (.inr ⟨s.drop (d ++ [47]).length, ?_⟩)
    have := hasPre_is h
    rw [List.append_assoc] at this
    exact this
theorem under_of {d s : Bytes} (h1 : isPathB d = true) (h2 : isPathB s = true) (h : d = [] ∨ d = s ∨ ∃ r, s = d ++ 47 :: r) : underB d s = true := by
  unfold underB
  rw [h1, h2]
  rcases h with h | h | ⟨r, h⟩
  · simp [h]
  · simp [h]
  · have : s = (d ++ [47]) ++ r := by rw [h]; simp
    have := hasPre_app (d ++ [47]) r
    rw [← ‹s = (d ++ [47]) ++ r›] at this
    simp [this]
theorem under_trans {a b c : Bytes} (h1 : underB a b = true) (h2 : underB b c = true) : underB a c = true := by
  obtain ⟨pa, pb, h3⟩ := under_cases h1
  obtain ⟨_, pc, h4⟩ := under_cases h2
  refine under_of pa pc ?_
  rcases h3 with h3 | h3 | ⟨r, h3⟩
  · exact .inl h3
  · subst h3; exact h4
  · rcases h4 with h4 | h4 | ⟨q, h4⟩
    · subst h4
      simp at h3
    · subst h4; exact .inr (.inr ⟨r, h3⟩)
    · exact .inr (.inr ⟨r ++ 47 :: q, by rw [h4, h3]; simp⟩)
theorem under_anti {a b : Bytes} (h1 : underB a b = true) (h2 : underB b a = true) : a = b := by
  obtain ⟨_, _, h3⟩ := under_cases h1
  obtain ⟨_, _, h4⟩ := under_cases h2
  rcases h3 with h3 | h3 | ⟨r, h3⟩
  · rcases h4 with h4 | h4 | ⟨q, h4⟩
    · rw [h3, h4]
    · exact h4.symm
    · rw [h3] at h4; simp at h4
  · exact h3
  · rcases h4 with h4 | h4 | ⟨q, h4⟩
    · rw [h4] at h3; simp at h3
    · exact h4.symm
    · have e1 := congrArg List.length h3
      have e2 := congrArg List.length h4
      simp at e1 e2
      omega
end Go.Proofs.YthdeopopodhimaaDoor

/- Calls that see some of the caller's objects: a contract over these alone serves in any memory. -/
set_option linter.unusedVariables false
set_option linter.unusedSimpArgs false
namespace Go.Ab
open Go.RowKit

def pos : List Nat → Nat → Option Nat
  | [], _ => none
  | a :: r, i => if i = a then some 0 else match pos r i with | some k => some (k + 1) | none => none
theorem pos_some : ∀ {ids : List Nat} {i k : Nat}, pos ids i = some k → ids[k]? = some i
  | [], _, _, h => by cases h
  | a :: r, i, k, h => by
    simp only [pos] at h
    split at h
    · cases h; subst_vars; rfl
    · split at h
      · rename_i k' hk
        cases h
        show (a :: r)[_ + 1]? = some i
        rw [List.getElem?_cons_succ]
        exact pos_some hk
      · cases h
theorem pos_none : ∀ {ids : List Nat} {i : Nat}, pos ids i = none → i ∉ ids
  | [], _, _ => by simp
  | a :: r, i, h => by
    simp only [pos] at h
    split at h
    · cases h
    · rename_i hne
      split at h
      · cases h
      · rename_i hk
        simp only [List.mem_cons, not_or]
        exact ⟨hne, pos_none hk⟩
theorem nodup_get {ids : List Nat} (hnd : ids.Nodup) {i j k : Nat} (h1 : ids[j]? = some i) (h2 : ids[k]? = some i) : j = k := by
  obtain ⟨hj, e1⟩ := List.getElem?_eq_some_iff.1 h1
  obtain ⟨hk, e2⟩ := List.getElem?_eq_some_iff.1 h2
  have hp := List.pairwise_iff_getElem.1 hnd
  rcases Nat.lt_trichotomy j k with h | h | h
  · exact absurd (e1.trans e2.symm) (hp j k hj hk h)
  · exact h
  · exact absurd (e2.trans e1.symm) (hp k j hk hj h)
theorem pos_of {ids : List Nat} (hnd : ids.Nodup) {i k : Nat} (h : ids[k]? = some i) : pos ids i = some k := by
  cases hp : pos ids i with
  | none => exact absurd (List.mem_of_getElem? h) (pos_none hp)
  | some j => rw [nodup_get hnd (pos_some hp) h]
theorem pos_no {ids : List Nat} {i : Nat} (h : i ∉ ids) : pos ids i = none := by
  cases hp : pos ids i with
  | none => rfl
  | some j => exact absurd (List.mem_of_getElem? (pos_some hp)) h

def pull (ids : List Nat) (μ : Mu) : Mu := fun k => match ids[k]? with | some i => μ i | none => none
def pullF (ids : List Nat) (μ : Mu) (F : Frm) : Frm := fun b o => F b o ∨ (Own μ b o ∧ ¬ Own (pull ids μ) b o)
def push (ids : List Nat) (n : Nat) (μ μ1 : Mu) : Mu := fun i => match pos ids i with | some k => μ1 k | none => if i < n then μ i else μ1 (ids.length + (i - n))
theorem pull_at {ids : List Nat} {μ : Mu} {k i : Nat} (h : ids[k]? = some i) : pull ids μ k = μ i := by unfold pull; rw [h]
theorem pull_own {ids : List Nat} {μ : Mu} {b o : Nat} (h : Own (pull ids μ) b o) : Own μ b o := by
  obtain ⟨k, h⟩ := h
  unfold pull at h
  cases hk : ids[k]? with
  | none => rw [hk] at h; rcases h with h | ⟨e, g, h, _⟩ <;> cases h
  | some i => rw [hk] at h; exact ⟨i, h⟩
theorem pull_lies {ids : List Nat} {μ : Mu} {k b : Nat} (h : Lies (pull ids μ) k b) : ∃ i, ids[k]? = some i ∧ Lies μ i b := by
  unfold Lies pull at h
  cases hk : ids[k]? with
  | none => rw [hk] at h; rcases h with h | ⟨e, g, h⟩ <;> cases h
  | some i => rw [hk] at h; exact ⟨i, rfl, h⟩
theorem own_lies {μ : Mu} {b o : Nat} (h : Own μ b o) : ∃ i, Lies μ i b := by
  obtain ⟨i, h | ⟨e, g, h, _⟩⟩ := h
  · exact ⟨i, .inl h⟩
  · exact ⟨i, .inr ⟨e, g, h⟩⟩
theorem lies_own {μ : Mu} {b i : Nat} (h : Lies μ i b) : ∃ o, Own μ b o := by
  rcases h with h | ⟨e, g, h⟩
  · exact ⟨0, i, .inl h⟩
  · exact ⟨e, i, .inr ⟨e, g, h, Nat.le_refl _⟩⟩
theorem pull_free {ids : List Nat} {μ : Mu} {F : Frm} {b o : Nat} (h : Free μ F b o) : Free (pull ids μ) (pullF ids μ F) b o :=
  ⟨fun hf => hf.elim h.1 fun hf => h.2 hf.1, fun ho => h.2 (pull_own ho)⟩

/-- What stands for x at the caller stands for y at the one that sees the objects ids. -/
def InV (ids : List Nat) (x y : AV) : Prop := ∀ (μ : Mu) (F : Frm) (w : World) (v : Value), Rep μ F w x v → Rep (pull ids μ) (pullF ids μ F) w y v
/-- .. and back; objects of its own making are numbered from n on. -/
def OutV (ids : List Nat) (n : Nat) (x y : AV) : Prop := ∀ (μ1 μ : Mu) (F F1 : Frm) (w : World) (v : Value), (∀ b o, Free μ1 F1 b o → Free μ F b o) → (∀ k i, ids[k]? = some i → μ i = μ1 k) → (∀ k, ids.length ≤ k → μ (n + (k - ids.length)) = μ1 k) →
  Rep μ1 F1 w x v → Rep μ F w y v
section
variable {ids : List Nat} {n : Nat}
theorem InV.closed {x : AV} (h : Closed x) : InV ids x x := fun μ F w v hr => h μ _ F _ w v (fun _ _ => pull_free) hr
theorem InV.sub {x y z : AV} (h : InV ids x y) (h2 : Sub y z) : InV ids x z := fun μ F w v hr => h2 _ _ _ _ (h μ F w v hr)
theorem InV.pre {x y z : AV} (h : Sub x y) (h2 : InV ids y z) : InV ids x z := fun μ F w v hr => h2 μ F w v (h _ _ _ _ hr)
theorem InV.ptr {k i off : Nat} (h : ids[k]? = some i) : InV ids (.ptr i off) (.ptr k off) := by
  intro μ F w v hr
  cases hr with
  | ptr _ _ _ h1 h2 h3 => exact .ptr k off v h1 (by rw [pull_at h]; exact h2) (fun b hb => h3 b (by rw [← pull_at (μ := μ) h]; exact hb))
theorem InV.osl {k i off m cap sz : Nat} (h : ids[k]? = some i) : InV ids (.osl i off m cap sz) (.osl k off m cap sz) := by
  intro μ F w v hr
  cases hr with
  | osl _ _ _ _ _ _ h1 h2 h3 => exact .osl k off m cap sz v h1 (by rw [pull_at h]; exact h2) (fun b hb => h3 b (by rw [← pull_at (μ := μ) h]; exact hb))
theorem InV.map {k i : Nat} (h : ids[k]? = some i) : InV ids (.map i) (.map k) := by
  intro μ F w v hr
  cases hr with
  | map _ _ h1 h2 h3 => exact .map k v h1 (by rw [pull_at h]; exact h2) (fun b hb => h3 b (by rw [← pull_at (μ := μ) h]; exact hb))
theorem InV.tok {k i g sz : Nat} {xs : List AV} (h : ids[k]? = some i) (hc : ∀ x, x ∈ xs → (∀ c, c ∈ x.cells → Closed c)) : InV ids (.sl sz xs (.tok i g)) (.sl sz xs (.tok k g)) := by
  intro μ F w v hr
  cases hr with
  | sl _ _ _ A cap ad vals hsz hcap hA hone hcell hrep htag =>
    refine .sl sz xs _ A cap ad vals hsz hcap hA hone ?_ ?_ ?_
    · intro a x j c hx hcx
      exact ⟨(hcell a x j c hx hcx).1, pull_free (hcell a x j c hx hcx).2⟩
    · intro a x j c hx hcx
      exact hc x (List.mem_of_getElem? hx) c (List.mem_of_getElem? hcx) μ _ F _ w _ (fun _ _ => pull_free) (hrep a x j c hx hcx)
    · show TagOK (pull ids μ) w A xs.length cap sz (.tok k g)
      simp only [TagOK] at htag ⊢
      rw [pull_at h]
      exact htag
theorem InV.agg {l m : List AV} (hl : l.length = m.length) (h : ∀ (i : Nat) (x y : AV), l[i]? = some x → m[i]? = some y → InV ids x y) : InV ids (.agg l) (.agg m) := by
  intro μ F w v hr
  obtain ⟨c, rfl, hs, hc, h1⟩ := hr.agg_inv
  refine .agg m c (hs.trans hl) (fun i y u hy hu => ?_) h1
  have hi : i < l.length := by rw [hl]; exact (List.getElem?_eq_some_iff.1 hy).1
  exact h i _ y (List.getElem?_eq_getElem hi) hy μ F w u (hc i _ u (List.getElem?_eq_getElem hi) hu)
theorem OutV.closed {x : AV} (h : Closed x) : OutV ids n x x := fun μ1 μ F F1 w v hf _ _ hr => h μ1 μ F1 F w v hf hr
theorem OutV.pre {x y z : AV} (h : Sub x y) (h2 : OutV ids n y z) : OutV ids n x z := fun μ1 μ F F1 w v a b c hr => h2 μ1 μ F F1 w v a b c (h _ _ _ _ hr)
theorem OutV.sub {x y z : AV} (h : OutV ids n x y) (h2 : Sub y z) : OutV ids n x z := fun μ1 μ F F1 w v a b c hr => h2 _ _ _ _ (h μ1 μ F F1 w v a b c hr)
theorem OutV.top {x : AV} : OutV ids n x .top := fun _ _ _ _ _ v _ _ _ _ => .top v
def sg (ids : List Nat) (n k : Nat) : Nat := match ids[k]? with | some i => i | none => n + (k - ids.length)
theorem sg_mu {μ μ1 : Mu} (h1 : ∀ k i, ids[k]? = some i → μ i = μ1 k) (h2 : ∀ k, ids.length ≤ k → μ (n + (k - ids.length)) = μ1 k) (k : Nat) : μ (sg ids n k) = μ1 k := by
  unfold sg
  cases hk : ids[k]? with
  | some i => exact h1 k i hk
  | none => exact h2 k (List.getElem?_eq_none_iff.1 hk)
theorem OutV.ptr {k off : Nat} : OutV ids n (.ptr k off) (.ptr (sg ids n k) off) := by
  intro μ1 μ F F1 w v _ a b hr
  cases hr with
  | ptr _ _ _ h1 h2 h3 => exact .ptr _ off v h1 (by rw [sg_mu a b]; exact h2) (fun c hc => h3 c (by rw [← sg_mu a b]; exact hc))
theorem OutV.osl {k off m cap sz : Nat} : OutV ids n (.osl k off m cap sz) (.osl (sg ids n k) off m cap sz) := by
  intro μ1 μ F F1 w v _ a b hr
  cases hr with
  | osl _ _ _ _ _ _ h1 h2 h3 => exact .osl _ off m cap sz v h1 (by rw [sg_mu a b]; exact h2) (fun c hc => h3 c (by rw [← sg_mu a b]; exact hc))
theorem OutV.map {k : Nat} : OutV ids n (.map k) (.map (sg ids n k)) := by
  intro μ1 μ F F1 w v _ a b hr
  cases hr with
  | map _ _ h1 h2 h3 => exact .map _ v h1 (by rw [sg_mu a b]; exact h2) (fun c hc => h3 c (by rw [← sg_mu a b]; exact hc))
theorem OutV.tok {k g sz : Nat} {xs : List AV} (hc : ∀ x, x ∈ xs → (∀ c, c ∈ x.cells → Closed c)) : OutV ids n (.sl sz xs (.tok k g)) (.sl sz xs (.tok (sg ids n k) g)) := by
  intro μ1 μ F F1 w v hf a b hr
  cases hr with
  | sl _ _ _ A cap ad vals hsz hcap hA hone hcell hrep htag =>
    refine .sl sz xs _ A cap ad vals hsz hcap hA hone ?_ ?_ ?_
    · intro q x j c hx hcx
      exact ⟨(hcell q x j c hx hcx).1, hf _ _ (hcell q x j c hx hcx).2⟩
    · intro q x j c hx hcx
      exact hc x (List.mem_of_getElem? hx) c (List.mem_of_getElem? hcx) μ1 μ F1 F w _ hf (hrep q x j c hx hcx)
    · show TagOK μ w A xs.length cap sz (.tok (sg ids n k) g)
      simp only [TagOK] at htag ⊢
      rw [sg_mu a b]
      exact htag
theorem OutV.agg {l m : List AV} (hl : l.length = m.length) (h : ∀ (i : Nat) (x y : AV), l[i]? = some x → m[i]? = some y → OutV ids n x y) : OutV ids n (.agg l) (.agg m) := by
  intro μ1 μ F F1 w v a b c' hr
  obtain ⟨c, rfl, hs, hc, h1⟩ := hr.agg_inv
  refine .agg m c (hs.trans hl) (fun i y u hy hu => ?_) h1
  have hi : i < l.length := by rw [hl]; exact (List.getElem?_eq_some_iff.1 hy).1
  exact h i _ y (List.getElem?_eq_getElem hi) hy μ1 μ F F1 w u a b c' (hc i _ u (List.getElem?_eq_getElem hi) hu)
theorem OutV.tup {l m : List AV} (hl : l.length = m.length) (h : ∀ (i : Nat) (x y : AV), l[i]? = some x → m[i]? = some y → OutV ids n x y) : OutV ids n (.tup l) (.tup m) := by
  intro μ1 μ F F1 w v a b c' hr
  obtain ⟨c, rfl, hs, hc⟩ := hr.tup_inv
  refine .tup m c (hs.trans hl) (fun i y u hy hu => ?_)
  have hi : i < l.length := by rw [hl]; exact (List.getElem?_eq_some_iff.1 hy).1
  exact h i _ y (List.getElem?_eq_getElem hi) hy μ1 μ F F1 w u a b c' (hc i _ u (List.getElem?_eq_getElem hi) hu)
def InL (ids : List Nat) : List AV → List AV → Prop
  | [], [] => True
  | x :: l, y :: m => InV ids x y ∧ InL ids l m
  | _, _ => False
theorem InL.len : ∀ {l m : List AV}, InL ids l m → l.length = m.length
  | [], [], _ => rfl
  | _ :: _, _ :: _, h => congrArg (· + 1) (InL.len h.2)
theorem InL.get : ∀ {l m : List AV}, InL ids l m → ∀ (i : Nat) (x y : AV), l[i]? = some x → m[i]? = some y → InV ids x y
  | [], [], _, i, _, _, hx, _ => by simp at hx
  | a :: l, b :: m, h, 0, x, y, hx, hy => by cases hx; cases hy; exact h.1
  | a :: l, b :: m, h, i + 1, x, y, hx, hy => InL.get h.2 i x y hx hy
theorem InL.closed : ∀ {l : List AV}, (∀ x, x ∈ l → Closed x) → InL ids l l
  | [], _ => trivial
  | x :: l, h => ⟨.closed (h x (by simp)), InL.closed fun y hy => h y (by simp [hy])⟩
def OutL (ids : List Nat) (n : Nat) : List AV → List AV → Prop
  | [], [] => True
  | x :: l, y :: m => OutV ids n x y ∧ OutL ids n l m
  | _, _ => False
theorem OutL.len : ∀ {l m : List AV}, OutL ids n l m → l.length = m.length
  | [], [], _ => rfl
  | _ :: _, _ :: _, h => congrArg (· + 1) (OutL.len h.2)
theorem OutL.get : ∀ {l m : List AV}, OutL ids n l m → ∀ (i : Nat) (x y : AV), l[i]? = some x → m[i]? = some y → OutV ids n x y
  | [], [], _, i, _, _, hx, _ => by simp at hx
  | a :: l, b :: m, h, 0, x, y, hx, hy => by cases hx; cases hy; exact h.1
  | a :: l, b :: m, h, i + 1, x, y, hx, hy => OutL.get h.2 i x y hx hy
theorem OutL.closed : ∀ {l : List AV}, (∀ x, x ∈ l → Closed x) → OutL ids n l l
  | [], _ => trivial
  | x :: l, h => ⟨.closed (h x (by simp)), OutL.closed fun y hy => h y (by simp [hy])⟩
def InO (ids : List Nat) : AObj → AObj → Prop
  | .cells l, .cells m => InL ids l m
  | .spare g, .spare g' => g = g'
  | _, _ => False
def OutO (ids : List Nat) (n : Nat) : AObj → AObj → Prop
  | .cells l, .cells m => OutL ids n l m
  | .spare g, .spare g' => g = g'
  | _, _ => False
def OutE (ids : List Nat) (n : Nat) : AEnd → AEnd → Prop
  | .ret x, .ret y => OutV ids n x y
  | .pan x, .pan y => OutV ids n x y
  | _, _ => False
/-- The caller's memory behind the call. -/
def OutM (ids : List Nat) (M M1 N : Mem) : Prop := N.next = M.next + (M1.next - ids.length) ∧ ∀ i o, N.get i = some o →
  (∃ k o1, (ids[k]? = some i ∨ ids.length ≤ k ∧ i = M.next + (k - ids.length)) ∧ M1.get k = some o1 ∧ OutO ids M.next o1 o) ∨ (i ∉ ids ∧ M.get i = some o)

theorem ACalls.frame {P : Program} {g : FuncId} {args args1 : List AV} {M N0 : Mem} {R R1 : AEnd → Mem → Prop} (ids : List Nat) (hnd : ids.Nodup) (hlt : ∀ i, i ∈ ids → i < M.next) (hn : N0.next = ids.length)
    (hobj : ∀ k o1, N0.get k = some o1 → ∃ i o, ids[k]? = some i ∧ M.get i = some o ∧ InO ids o o1) (h : ACalls P g args1 N0 R1) (hargs : InL ids args args1)
    (hR : ∀ e M1, R1 e M1 → ∃ e' N, OutE ids M.next e e' ∧ OutM ids M M1 N ∧ R e' N) : ACalls P g args M R := by
  refine ⟨h.1, fun μ F w vs hg hv => ?_⟩
  have hLi : ∀ {i b}, Lies μ i b → i ∉ ids → ∀ o, ¬ Own (pull ids μ) b o := by
    intro i b hi hni o ho
    obtain ⟨k, hk⟩ := own_lies ho
    obtain ⟨i', hk', hi'⟩ := pull_lies hk
    have := hg.inj i i' b hi hi'
    subst this
    exact hni (List.mem_of_getElem? hk')
  have hg0 : Gam (pull ids μ) (pullF ids μ F) N0 w := by
    refine ⟨?_, ?_, ?_, ?_, ?_, ?_⟩
    · intro k
      rw [hn]
      constructor
      · intro hk
        refine Nat.lt_of_not_le fun hle => hk ?_
        unfold pull
        rw [List.getElem?_eq_none hle]
      · intro hk
        rw [pull_at (List.getElem?_eq_getElem hk)]
        exact (hg.dom _).2 (hlt _ (List.getElem_mem hk))
    · intro k l1 hk
      obtain ⟨i, o, hi, hM, hO⟩ := hobj k _ hk
      cases o with
      | spare g => exact hO.elim
      | cells l =>
        obtain ⟨b, c, ty, h1, h2, h3, h4, h5⟩ := hg.obj i l hM
        have hO : InL ids l l1 := hO
        refine ⟨b, c, ty, (pull_at hi).trans h1, h2, h3.trans hO.len, h4, ?_⟩
        intro j y v hy hv
        have hj : j < l.length := by rw [hO.len]; exact (List.getElem?_eq_some_iff.1 hy).1
        exact hO.get j _ y (List.getElem?_eq_getElem hj) hy μ F w v (h5 j _ v (List.getElem?_eq_getElem hj) hv)
    · intro k g1 hk
      obtain ⟨i, o, hi, hM, hO⟩ := hobj k _ hk
      cases o with
      | cells l => exact hO.elim
      | spare g =>
        have hO : g = g1 := hO
        subst hO
        obtain ⟨p, h1, h2⟩ := hg.spare i g hM
        exact ⟨p, (pull_at hi).trans h1, h2⟩
    · intro j k b hj hk
      obtain ⟨i, h1, h2⟩ := pull_lies hj
      obtain ⟨i', h3, h4⟩ := pull_lies hk
      have := hg.inj i i' b h2 h4
      subst this
      exact nodup_get hnd h1 h3
    · rintro b o ho (hf | hf)
      · exact hg.frm b o (pull_own ho) hf
      · exact hf.2 ho
    · refine ⟨fun b o ho => hg.fit.own b o (pull_own ho), ?_⟩
      rintro b o (hf | hf)
      · exact hg.fit.frm b o hf
      · exact hg.fit.own b o hf.1
  refine (h.2 _ _ w vs hg0 ⟨hv.1.trans hargs.len, fun i y v hy hv' => ?_⟩).mono ?_
  · have hi : i < args.length := by rw [hargs.len]; exact (List.getElem?_eq_some_iff.1 hy).1
    exact hargs.get i _ y (List.getElem?_eq_getElem hi) hy μ F w v (hv.2 i _ v (List.getElem?_eq_getElem hi) hv')
  rintro e w' ⟨μ1, M1, hev, hg1, hend⟩
  have hp1 : ∀ {k i}, ids[k]? = some i → push ids M.next μ μ1 i = μ1 k := by
    intro k i hk
    unfold push
    rw [pos_of hnd hk]
  have hp2 : ∀ {i}, i ∉ ids → i < M.next → push ids M.next μ μ1 i = μ i := by
    intro i hni hlt
    unfold push
    rw [pos_no hni]
    simp [hlt]
  have hp3 : ∀ k, ids.length ≤ k → push ids M.next μ μ1 (M.next + (k - ids.length)) = μ1 k := by
    intro k hk
    have hni : M.next + (k - ids.length) ∉ ids := fun hm => by have := hlt _ hm; omega
    unfold push
    rw [pos_no hni]
    have : ids.length + (M.next + (k - ids.length) - M.next) = k := by omega
    simp only [this]
    rw [if_neg (by omega)]
  -- where an object of the new map comes from
  have hcase : ∀ i, (∃ k, (ids[k]? = some i ∨ ids.length ≤ k ∧ i = M.next + (k - ids.length)) ∧ push ids M.next μ μ1 i = μ1 k) ∨ (i ∉ ids ∧ i < M.next ∧ push ids M.next μ μ1 i = μ i) := by
    intro i
    cases hp : pos ids i with
    | some k => exact .inl ⟨k, .inl (pos_some hp), hp1 (pos_some hp)⟩
    | none =>
      have hni := pos_none hp
      by_cases hlt' : i < M.next
      · exact .inr ⟨hni, hlt', hp2 hni hlt'⟩
      · refine .inl ⟨ids.length + (i - M.next), .inr ⟨by omega, by omega⟩, ?_⟩
        have := hp3 (ids.length + (i - M.next)) (by omega)
        have e : M.next + (ids.length + (i - M.next) - ids.length) = i := by omega
        rw [e] at this
        exact this
  have hown1 : ∀ {i b o k}, push ids M.next μ μ1 i = μ1 k → (push ids M.next μ μ1 i = some (.at b) ∨ ∃ e g, push ids M.next μ μ1 i = some (.spare (some (b, e)) g) ∧ e ≤ o) → Own μ1 b o := by
    intro i b o k hk ho
    rw [hk] at ho
    exact ⟨k, ho⟩
  have hev' : Evo w μ w' (push ids M.next μ μ1) := by
    refine ⟨hev.os, hev.tape, hev.output, hev.size, ?_, fun b hb hno => hev.same b hb fun o ho => hno o (pull_own ho), fun b e c ty fr hb hno hc => hev.part b e c ty fr hb (fun o ho => hno o (pull_own ho)) hc, ?_⟩
    · intro id hid
      have hlt' := (hg.dom id).1 hid
      rcases hcase id with ⟨k, hk, hpk⟩ | ⟨hni, _, hpi⟩
      · rcases hk with hk | ⟨_, hk⟩
        · rw [hpk]
          have := hev.mu k (by rw [pull_at hk]; exact hid)
          rw [pull_at hk] at this
          exact this
        · omega
      · exact .inl hpi
    · rintro b o hb ⟨i, ho⟩
      rcases hcase i with ⟨k, _, hpk⟩ | ⟨hni, _, hpi⟩
      · exact pull_own (hev.own b o hb (hown1 hpk ho))
      · rw [hpi] at ho
        exact ⟨i, ho⟩
  have hfree : ∀ b o, Free μ1 (pullF ids μ F) b o → Free (push ids M.next μ μ1) F b o := by
    rintro b o ⟨hf, ho⟩
    refine ⟨fun h => hf (.inl h), ?_⟩
    rintro ⟨i, hi⟩
    rcases hcase i with ⟨k, _, hpk⟩ | ⟨hni, _, hpi⟩
    · exact ho (hown1 hpk hi)
    · rw [hpi] at hi
      have hL : Lies μ i b := by
        rcases hi with h | ⟨e, g, h, _⟩
        · exact .inl h
        · exact .inr ⟨e, g, h⟩
      exact hf (.inr ⟨⟨i, hi⟩, hLi hL hni o⟩)
  have hle : ids.length ≤ M1.next := by
    refine Nat.le_of_not_lt fun hlt' => ?_
    have hk : M1.next < ids.length := hlt'
    have h0 : pull ids μ M1.next ≠ none := by
      rw [pull_at (List.getElem?_eq_getElem hk)]
      exact (hg.dom _).2 (hlt _ (List.getElem_mem hk))
    have h1 : μ1 M1.next ≠ none := by
      rcases hev.mu _ h0 with h | h | ⟨_, _, _, _, _, h, _⟩ <;> rw [h]
      · exact h0
      · simp
      · simp
    have := (hg1.dom _).1 h1
    omega
  have hgam : ∀ N, OutM ids M M1 N → Gam (push ids M.next μ μ1) F N w' := by
    rintro N ⟨hN, hNg⟩
    have hkey : ∀ {k i : Nat}, (ids[k]? = some i ∨ ids.length ≤ k ∧ i = M.next + (k - ids.length)) → push ids M.next μ μ1 i = μ1 k := by
      rintro k i (hk | ⟨hk, rfl⟩)
      · exact hp1 hk
      · exact hp3 k hk
    refine ⟨?_, ?_, ?_, ?_, ?_, ?_⟩
    · intro i
      rw [hN]
      rcases hcase i with ⟨k, hk, hpk⟩ | ⟨hni, hlt', hpi⟩
      · rw [hpk, hg1.dom]
        rcases hk with hk | ⟨hk, rfl⟩
        · have h1 := (List.getElem?_eq_some_iff.1 hk).1
          have h2 := hlt i (List.mem_of_getElem? hk)
          exact ⟨fun _ => by omega, fun _ => by omega⟩
        · exact ⟨fun _ => by omega, fun _ => by omega⟩
      · rw [hpi, hg.dom]
        exact ⟨fun _ => by omega, fun _ => hlt'⟩
    · intro i l hi
      rcases hNg i _ hi with ⟨k, o1, hk, hM1, hO⟩ | ⟨hni, hM⟩
      · cases o1 with
        | spare g => exact hO.elim
        | cells l1 =>
          have hO : OutL ids M.next l1 l := hO
          obtain ⟨b, c, ty, h1, h2, h3, h4, h5⟩ := hg1.obj k l1 hM1
          refine ⟨b, c, ty, (hkey hk).trans h1, h2, h3.trans hO.len, h4, ?_⟩
          intro j y v hy hv
          have hj : j < l1.length := by rw [hO.len]; exact (List.getElem?_eq_some_iff.1 hy).1
          exact hO.get j _ y (List.getElem?_eq_getElem hj) hy μ1 _ F _ w' v hfree (fun k i h => hp1 h) hp3 (h5 j _ v (List.getElem?_eq_getElem hj) hv)
      · obtain ⟨b, c, ty, h1, h2, h3, h4, h5⟩ := hg.obj i l hM
        have hlt' : i < M.next := (hg.dom i).1 (by rw [h1]; simp)
        have hb : b < w.heap.size := (Array.getElem?_eq_some_iff.1 h2).1
        exact ⟨b, c, ty, (hp2 hni hlt').trans h1, (hev.same b hb (hLi (.inl h1) hni)).trans h2, h3, h4, fun j x v hx hv => (h5 j x v hx hv).evo hev'⟩
    · intro i g hi
      rcases hNg i _ hi with ⟨k, o1, hk, hM1, hO⟩ | ⟨hni, hM⟩
      · cases o1 with
        | cells l1 => exact hO.elim
        | spare g1 =>
          have hO : g1 = g := hO
          subst hO
          obtain ⟨p, h1, h2⟩ := hg1.spare k g1 hM1
          exact ⟨p, (hkey hk).trans h1, h2⟩
      · obtain ⟨p, h1, h2⟩ := hg.spare i g hM
        have hlt' : i < M.next := (hg.dom i).1 (by rw [h1]; simp)
        refine ⟨p, (hp2 hni hlt').trans h1, fun b e hp => ?_⟩
        obtain ⟨c, ty, fr, h3, h4, h5⟩ := h2 b e hp
        have hb : b < w.heap.size := (Array.getElem?_eq_some_iff.1 h3).1
        exact ⟨c, ty, fr, (hev.same b hb (hLi (.inr ⟨e, g, by rw [h1, hp]⟩) hni)).trans h3, h4, h5⟩
    · intro i j b hi hj
      have hmix : ∀ {i j k}, push ids M.next μ μ1 i = μ1 k → (j ∉ ids ∧ j < M.next ∧ push ids M.next μ μ1 j = μ j) → Lies (push ids M.next μ μ1) i b → Lies (push ids M.next μ μ1) j b → False := by
        rintro i j k hpk ⟨hnj, _, hpj⟩ hi hj
        have hi1 : Lies μ1 k b := by unfold Lies at hi ⊢; rw [hpk] at hi; exact hi
        have hj1 : Lies μ j b := by unfold Lies at hj ⊢; rw [hpj] at hj; exact hj
        obtain ⟨o, ho⟩ := lies_own hi1
        obtain ⟨o', ho'⟩ := lies_own hj1
        have hb := hg.fit.own b o' ho'
        exact hLi hj1 hnj o (hev.own b o hb ho)
      rcases hcase i with ⟨k, hk, hpk⟩ | hci
      · rcases hcase j with ⟨k', hk', hpk'⟩ | hcj
        · have hi1 : Lies μ1 k b := by unfold Lies at hi ⊢; rw [hpk] at hi; exact hi
          have hj1 : Lies μ1 k' b := by unfold Lies at hj ⊢; rw [hpk'] at hj; exact hj
          have := hg1.inj k k' b hi1 hj1
          subst this
          rcases hk with hk | ⟨hk, e⟩
          · rcases hk' with hk' | ⟨hk', e'⟩
            · rw [hk] at hk'; cases hk'; rfl
            · have := (List.getElem?_eq_some_iff.1 hk).1; omega
          · rcases hk' with hk' | ⟨hk', e'⟩
            · have := (List.getElem?_eq_some_iff.1 hk').1; omega
            · omega
        · exact (hmix hpk hcj hi hj).elim
      · rcases hcase j with ⟨k', hk', hpk'⟩ | hcj
        · exact (hmix hpk' hci hj hi).elim
        · have hi1 : Lies μ i b := by unfold Lies at hi ⊢; rw [hci.2.2] at hi; exact hi
          have hj1 : Lies μ j b := by unfold Lies at hj ⊢; rw [hcj.2.2] at hj; exact hj
          exact hg.inj i j b hi1 hj1
    · rintro b o ⟨i, hi⟩ hf
      rcases hcase i with ⟨k, hk, hpk⟩ | ⟨hni, _, hpi⟩
      · exact hg1.frm b o (hown1 hpk hi) (.inl hf)
      · rw [hpi] at hi
        exact hg.frm b o ⟨i, hi⟩ hf
    · refine ⟨?_, fun b o hf => Nat.lt_of_lt_of_le (hg.fit.frm b o hf) hev.size⟩
      rintro b o ⟨i, hi⟩
      rcases hcase i with ⟨k, hk, hpk⟩ | ⟨hni, _, hpi⟩
      · exact hg1.fit.own b o (hown1 hpk hi)
      · rw [hpi] at hi
        exact Nat.lt_of_lt_of_le (hg.fit.own b o ⟨i, hi⟩) hev.size
  cases e with
  | returned v =>
    obtain ⟨x, h4, h5⟩ := hend
    obtain ⟨e', N, hE, hN, hr⟩ := hR _ _ h5
    cases e' with
    | pan y => exact hE.elim
    | ret y => exact ⟨_, N, hev', hgam N hN, y, hE μ1 _ F _ w' v hfree (fun k i h => hp1 h) hp3 h4, hr⟩
  | panicked ch =>
    obtain ⟨x, v, h4, h5, h6⟩ := hend
    obtain ⟨e', N, hE, hN, hr⟩ := hR _ _ h6
    cases e' with
    | ret y => exact hE.elim
    | pan y => exact ⟨_, N, hev', hgam N hN, y, v, h4, hE μ1 _ F _ w' v hfree (fun k i h => hp1 h) hp3 h5, hr⟩
  | outgrown => exact hend.elim

/-- One object is seen; what it holds, and what is told, needs no other. -/
theorem ACalls.frame1 {P : Program} {g : FuncId} {args args1 c : List AV} {M : Mem} {R : AEnd → Mem → Prop} {R1 : AEnd → List AV → Prop} (id : Nat) (hM : M.get id = some (.cells c)) (hlt : id < M.next) (hc : ∀ x, x ∈ c → Closed x)
    (h : ACalls P g args1 ⟨1, [(0, .cells c)]⟩ fun e N => N.next = 1 ∧ ∃ d, N.get 0 = some (.cells d) ∧ R1 e d) (hargs : InL [id] args args1)
    (hR : ∀ e d, R1 e d → (match e with | .ret x => Closed x | .pan x => Closed x) ∧ (∀ x, x ∈ d → Closed x) ∧ R e (M.set id (.cells d))) : ACalls P g args M R := by
  refine ACalls.frame [id] (by simp) (by simpa using hlt) rfl ?_ h hargs ?_
  · intro k o1 hk
    have hk' : (if k = 0 then some (AObj.cells c) else none) = some o1 := hk
    split at hk'
    · rename_i h0
      subst h0
      cases hk'
      exact ⟨id, _, rfl, hM, InL.closed hc⟩
    · cases hk'
  · rintro e M1 ⟨h1, d, h2, h3⟩
    obtain ⟨h4, h5, h6⟩ := hR e d h3
    refine ⟨e, _, ?_, ⟨?_, ?_⟩, h6⟩
    · cases e <;> exact OutV.closed h4
    · show M.next = _
      rw [h1]
      rfl
    · intro i o hi
      rw [Mem.get_set] at hi
      split at hi
      · rename_i h0
        cases hi
        exact .inl ⟨0, _, .inl (by rw [h0]; rfl), h2, OutL.closed h5⟩
      · rename_i h0
        exact .inr ⟨by simpa using h0, hi⟩
/-- An object is made; what it holds needs no other. -/
theorem ACalls.frameN {P : Program} {g : FuncId} {args : List AV} {M : Mem} {R : AEnd → Mem → Prop} {R1 : AEnd → List AV → Prop} (h : ACalls P g args ⟨0, []⟩ fun e N => N.next = 1 ∧ ∃ d, N.get 0 = some (.cells d) ∧ R1 e d) (ha : ∀ x, x ∈ args → Closed x)
    (hR : ∀ e d, R1 e d → (∀ x, x ∈ d → Closed x) ∧ ∃ e', OutE [] M.next e e' ∧ R e' (M.push (.cells d))) : ACalls P g args M R := by
  refine ACalls.frame [] (by simp) (by simp) rfl ?_ h (InL.closed ha) ?_
  · intro k o1 hk
    cases hk
  · rintro e M1 ⟨h1, d, h2, h3⟩
    obtain ⟨h5, e', h4, h6⟩ := hR e d h3
    refine ⟨e', _, h4, ⟨?_, ?_⟩, h6⟩
    · show M.next + 1 = _
      rw [h1]
      rfl
    · intro i o hi
      rw [Mem.get_push] at hi
      split at hi
      · rename_i h0
        cases hi
        exact .inl ⟨0, _, .inr ⟨Nat.zero_le _, by rw [h0]; rfl⟩, h2, OutL.closed h5⟩
      · exact .inr ⟨by simp, hi⟩
/-- What a call made for itself is forgotten at its end. -/
theorem ACalls.cutL {P : Program} {g : FuncId} {args : List AV} {M : Mem} {r : AV} {l : List (Nat × AObj)} (h : ACalls P g args M fun e N => ∃ x, e = .ret x ∧ SubC M.next x r ∧ M.next ≤ N.next ∧ ObjsC M.next N l) :
    ACalls P g args M fun e N => e = .ret r ∧ N = ⟨M.next, l⟩ := by
  refine h.joint ?_ ?_
  · rintro x N ⟨y, e, hs, hn, ho⟩
    cases e
    exact ⟨r, _, ⟨rfl, rfl⟩, Joint.cut (Nat.le_refl _) hn rfl ⟨hs, trivial⟩ ho⟩
  · rintro x N ⟨y, e, _⟩
    cases e
theorem objsC_closed {k i : Nat} {l : List AV} {M : Mem} {r : List (Nat × AObj)} (hi : i < k) (hM : M.get i = some (.cells l)) (hl : ∀ x, x ∈ l → Closed x) (hr : ObjsC k M r) : ObjsC k M ((i, .cells l) :: r) := by
  refine ⟨hi, ?_, hr⟩
  rw [hM]
  refine ⟨rfl, fun j x y hx hy => ?_⟩
  rw [hx] at hy
  cases hy
  exact SubC.of_closed (hl x (List.mem_of_getElem? hx))
/-- A variable that nobody writes to any more: its place is known by what it holds. -/
theorem Joint.freezeP {n0 : Nat} {t : List (Nat × AV)} {ds : List ADef} {M : Mem} (i : Nat) {id : Nat} {l : List AV} (h : AF.get ⟨t, ds⟩ i = .ptr id 0) (hM : M.get id = some (.cells l)) :
    Joint n0 ⟨t, ds⟩ M ⟨(i, .ref l) :: t, ds⟩ (M.drop id) := by
  intro μ0 μ F w0 w m a hn he hg hr
  obtain ⟨b, c, ty, o1, o2, o3, o4, o5⟩ := hg.obj id l hM
  have hid : id < M.next := (hg.dom id).1 (by rw [o1]; simp)
  obtain ⟨μ2, k1, k2, k3, k4⟩ := gam_kill hg hid
  have hv := hr.tmps i
  rw [h] at hv
  obtain ⟨b', c', ty', hb', hv', _⟩ := gam_ptr hg hM hv
  rw [o1] at hb'
  cases hb'
  refine ⟨μ2, he.trans k3, k4 _ rfl (fun j => Mem.get_drop M id j), hr.size, ?_, hr.defs.evo k3, fun p hp => (hr.kept p hp).evo k3⟩
  intro j
  by_cases e : j = i
  · subst e
    have : AF.get ⟨(j, .ref l) :: t, ds⟩ j = .ref l := by simp [AF.get, lookup]
    rw [this, hv']
    have hcell : ∀ (p : Nat) (x : AV), l[p]? = some x → c[p]? = some (c.getD p undef) := by
      intro p x hp
      have h1 := (List.getElem?_eq_some_iff.1 hp).1
      have : p < c.size := by omega
      simp [Array.getD, this]
    refine .ref l b 0 (fun p => c.getD p undef) (fun p x hp => o4 p _ (hcell p x hp)) (fun p x hp => ?_) (fun p x hp => (o5 p x _ hp (hcell p x hp)).evo k3)
    rw [Nat.zero_add]
    refine ⟨by rw [cell_mk o2]; exact hcell p x hp, hg.frm b p ⟨id, .inl o1⟩, ?_⟩
    intro ho
    obtain ⟨i', hi', h4 | ⟨e', g', h4, _⟩⟩ := k2 b p ho
    · exact hi' (hg.inj i' id b (.inl h4) (.inl o1))
    · exact hi' (hg.inj i' id b (.inr ⟨e', g', h4⟩) (.inl o1))
  · have : AF.get ⟨(i, .ref l) :: t, ds⟩ j = AF.get ⟨t, ds⟩ j := by simp [AF.get, lookup, e]
    rw [this]
    exact (hr.tmps j).evo k3
def SubL : List AV → List AV → Prop
  | [], [] => True
  | x :: l, y :: m => Sub x y ∧ SubL l m
  | _, _ => False
theorem SubL.len : ∀ {l m : List AV}, SubL l m → l.length = m.length
  | [], [], _ => rfl
  | _ :: _, _ :: _, h => congrArg (· + 1) (SubL.len h.2)
theorem SubL.get : ∀ {l m : List AV}, SubL l m → ∀ (i : Nat) (x y : AV), l[i]? = some x → m[i]? = some y → Sub x y
  | [], [], _, i, _, _, hx, _ => by simp at hx
  | a :: l, b :: m, h, 0, x, y, hx, hy => by cases hx; cases hy; exact h.1
  | a :: l, b :: m, h, i + 1, x, y, hx, hy => SubL.get h.2 i x y hx hy
theorem APure.sub {P : Program} {g : FuncId} {args args' : List AV} {r : AV} (h : APure P g args' r) (hs : SubL args args') : APure P g args r := fun M => (h M).sub hs.len hs.get
end
end Go.Ab
