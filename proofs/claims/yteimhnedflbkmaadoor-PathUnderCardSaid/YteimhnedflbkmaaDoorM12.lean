/- Parts of the proof, one behind the other: PathF, PathG, PathE, Cmp, KeyA. No further condition. -/
import Derived.Test.YteimhnedflbkmaaDoorM11
import Derived.Test.YteimhnedflbkmaaDoorM08
import Derived.Test.YteimhnedflbkmaaDoorM07
set_option linter.unusedVariables false
set_option linter.unusedSimpArgs false
/- What paths are, in plain words: parts, glue, Norm. No further condition. -/
set_option linter.unusedVariables false
set_option linter.unusedSimpArgs false
namespace Go.Proofs.YteimhnedflbkmaaDoor
open Go.Ab

theorem splitOn_app (c : UInt8) (y : Bytes) : ∀ x : Bytes, splitOn c (x ++ c :: y) = splitOn c x ++ splitOn c y
  | [] => by
    show splitOn c (c :: y) = _
    have : splitOn c (c :: y) = [] :: splitOn c y := by rw [splitOn, if_pos rfl]
    rw [this]; rfl
  | b :: l => by
    have ih := splitOn_app c y l
    show splitOn c (b :: (l ++ c :: y)) = splitOn c (b :: l) ++ _
    rw [splitOn, ih, splitOn]
    by_cases hb : b = c
    · rw [if_pos hb, if_pos hb]; rfl
    · rw [if_neg hb, if_neg hb]
      cases h : splitOn c l with
      | nil => exact absurd h (splitOn_ne c l)
      | cons p r => rfl
theorem glue_split (c : UInt8) : ∀ s : Bytes, glueL [c] (splitOn c s) = s
  | [] => rfl
  | b :: l => by
    have ih := glue_split c l
    rw [splitOn]
    by_cases hb : b = c
    · rw [if_pos hb, glueL_cons _ _ (splitOn_ne c l), ih]
      simp [hb]
    · rw [if_neg hb]
      cases h : splitOn c l with
      | nil => exact absurd h (splitOn_ne c l)
      | cons p r =>
        rw [h] at ih
        cases r with
        | nil =>
          simp only [glueL] at ih ⊢
          rw [ih]
        | cons q r =>
          show (b :: p) ++ [c] ++ glueL [c] (q :: r) = b :: l
          rw [← ih, glueL_cons _ p (r := q :: r) (by simp)]
          simp
theorem split_glue (c : UInt8) : ∀ l : List Bytes, l ≠ [] → (∀ p, p ∈ l → ∀ b, b ∈ p → b ≠ c) → splitOn c (glueL [c] l) = l
  | [], h, _ => absurd rfl h
  | [p], _, h => splitOn_none c p (h p (by simp))
  | p :: q :: r, _, h => by
    have ih := split_glue c (q :: r) (by simp) (fun x hx => h x (by simp only [List.mem_cons] at hx ⊢; exact .inr hx))
    rw [glueL_cons _ p (r := q :: r) (by simp)]
    have : p ++ [c] ++ glueL [c] (q :: r) = p ++ c :: glueL [c] (q :: r) := by simp
    rw [this, splitOn_cut c _ p (h p (by simp)), ih]
theorem glue_app (c : UInt8) (y : List Bytes) (hy : y ≠ []) : ∀ x : List Bytes, x ≠ [] → glueL [c] (x ++ y) = glueL [c] x ++ c :: glueL [c] y
  | [], h => absurd rfl h
  | [p], _ => by
    show glueL [c] (p :: y) = _
    rw [glueL_cons _ _ hy]
    simp [glueL]
  | p :: q :: r, _ => by
    have ih := glue_app c y hy (q :: r) (by simp)
    show glueL [c] (p :: ((q :: r) ++ y)) = _
    rw [glueL_cons _ _ (by simp), ih, glueL_cons _ p (by simp : q :: r ≠ [])]
    simp
theorem split_count (c : UInt8) : ∀ s : Bytes, (splitOn c s).length = Lib.countByte s c + 1
  | [] => rfl
  | b :: l => by
    have ih := split_count c l
    unfold Lib.countByte at ih ⊢
    rw [splitOn, List.count_cons]
    by_cases hb : b = c
    · rw [if_pos hb]
      simp [hb, ih]
    · rw [if_neg hb]
      cases h : splitOn c l with
      | nil => exact absurd h (splitOn_ne c l)
      | cons p r =>
        rw [h] at ih
        simp [hb]
        simpa using ih

theorem isName_no {p : Bytes} (h : isNameB p = true) : p ≠ [] ∧ p ≠ [46] ∧ p ≠ [46, 46] ∧ ∀ b, b ∈ p → b ≠ 47 := by
  unfold isNameB at h
  simp only [Bool.and_eq_true, Bool.not_eq_true', beq_eq_false_iff_ne, ne_eq, List.any_eq_false, Bool.or_eq_true, beq_iff_eq, not_or] at h
  exact ⟨h.1.1.1.1, h.1.1.2, h.1.2, fun b hb => (h.2 b hb).1⟩
theorem path_iff (s : Bytes) : isPathB s = true ↔ s = [] ∨ ((∀ p, p ∈ splitOn 47 s → isNameB p = true) ∧ s.length ≤ 100) := by
  unfold isPathB
  simp [Bool.or_eq_true, Bool.and_eq_true]
theorem path_nil : isPathB [] = true := rfl
theorem path_len {s : Bytes} (h : isPathB s = true) : s.length ≤ 100 := by
  rcases (path_iff s).1 h with rfl | h
  · simp
  · exact h.2
theorem path_names {s : Bytes} (h : isPathB s = true) (h0 : s ≠ []) : ∀ p, p ∈ splitOn 47 s → isNameB p = true := by
  rcases (path_iff s).1 h with h | h
  · exact absurd h h0
  · exact h.1

/-- The last '/' parts a path's last name from what is ahead. -/
theorem last_cut (s : Bytes) : (lastAt 47 s = -1 ∧ splitOn 47 s = [s]) ∨ ∃ p b : Bytes, lastAt 47 s = (p.length : Int) ∧ s = p ++ 47 :: b ∧ splitOn 47 s = splitOn 47 p ++ [b] := by
  rcases lastAt_spec 47 s with ⟨h1, h2⟩ | ⟨i, h1, h2, h3⟩
  · refine .inl ⟨h1, splitOn_none 47 s fun b hb => ?_⟩
    obtain ⟨j, hj⟩ := List.getElem?_of_mem hb
    exact h2 j b hj
  · obtain ⟨hi, he⟩ := List.getElem?_eq_some_iff.1 h2
    have hs : s = s.take i ++ 47 :: s.drop (i + 1) := by
      have := List.take_append_drop i s
      rw [List.drop_eq_getElem_cons hi, he] at this
      exact this.symm
    refine .inr ⟨s.take i, s.drop (i + 1), ?_, hs, ?_⟩
    · rw [h1]; simp; omega
    · have h4 := splitOn_app 47 (s.drop (i + 1)) (s.take i)
      rw [← hs] at h4
      rw [h4, splitOn_none 47 (s.drop (i + 1))]
      intro b hb
      obtain ⟨j, hj⟩ := List.getElem?_of_mem hb
      rw [List.getElem?_drop] at hj
      exact h3 _ b (by omega) hj
theorem names_path {s : Bytes} (h : isPathB s = true) (h0 : s ≠ []) : namesB s = (splitOn 47 s, true) := by
  have h1 := path_names h h0
  unfold namesB
  rw [if_neg h0, if_pos (by simpa using h1)]
  simp [path_len h]
theorem names_no {s : Bytes} (h : isPathB s = false) : (namesB s).2 = false := (namesB_is s).trans h

theorem cut_is (s : Bytes) : (rparentB s = ((cutB s).1, (cutB s).2.2)) ∧ (rbaseB s = ((cutB s).2.1, (cutB s).2.2)) := by
  unfold rparentB rbaseB cutB
  by_cases h0 : s = []
  · subst h0
    exact ⟨by decide, by decide⟩
  · cases h : isPathB s
    · simp [names_no h]
    · rw [names_path h h0]
      have hne : splitOn 47 s ≠ [] := splitOn_ne 47 s
      have c1 : ¬ (((splitOn 47 s, true) : List Bytes × Bool).2 = false ∨ ((splitOn 47 s, true) : List Bytes × Bool).1 = []) := by simp [hne]
      rw [if_neg c1, if_neg c1, if_neg (c := s = [] ∨ true = false) (by simp [h0])]
      rcases last_cut s with ⟨h1, h2⟩ | ⟨p, b, h1, h2, h3⟩
      · rw [h1, h2]
        exact ⟨by simp [glueL], by simp⟩
      · rw [h1, h3]
        have e1 : s.take ((p.length : Int)).toNat = p := by rw [h2]; simp
        have e2 : s.drop ((p.length : Int) + 1).toNat = b := by
          have : ((p.length : Int) + 1).toNat = p.length + 1 := by omega
          rw [this, h2]
          simp
        rw [e1, e2]
        simp only [List.dropLast_concat, List.getLastD_concat, glue_split, and_self]
theorem depth_is (s : Bytes) : rdepthB s = depthB s := by
  unfold rdepthB depthB
  cases h : isPathB s
  · rw [if_pos (names_no h), if_pos rfl]
  · have h2 : (namesB s).2 = true := (namesB_is s).trans h
    rw [if_neg (by simp [h2]), if_neg (by simp)]
    by_cases h0 : s = []
    · subst h0; rfl
    · rw [if_neg h0, names_path h h0]
      simp only [split_count]
      push_cast; rfl
theorem under_is (d s : Bytes) : runderB d s = underB d s := by
  unfold runderB underB
  cases hd : isPathB d
  · rw [names_no hd]; rfl
  cases hs : isPathB s
  · rw [names_no hs]; simp
  rw [(namesB_is d).trans hd, (namesB_is s).trans hs]
  simp only [Bool.true_and]
  by_cases d0 : d = []
  · subst d0
    simp [namesB]
  · rw [names_path hd d0]
    by_cases s0 : s = []
    · subst s0
      have : splitOn 47 d ≠ [] := splitOn_ne 47 d
      have h1 : hasPre [] (d ++ [47]) = false := by simp [hasPre]
      have h2 : (d == []) = false := by simp [d0]
      have h3 : ((namesB []).1) = [] := rfl
      rw [h1, h2, h3]
      simp [this]
    · rw [names_path hs s0]
      have h2 : (d == []) = false := by simp [d0]
      rw [h2, Bool.eq_iff_iff]
      simp only [Bool.and_eq_true, decide_eq_true_eq, beq_iff_eq, Bool.or_eq_true, Bool.false_or]
      constructor
      · rintro ⟨h3, h4⟩
        have h5 := List.take_append_drop (splitOn 47 d).length (splitOn 47 s)
        rw [← h4] at h5
        cases h6 : List.drop (splitOn 47 d).length (splitOn 47 s) with
        | nil =>
          left
          rw [h6, List.append_nil] at h5
          rw [← glue_split 47 d, h5, glue_split]
        | cons a r =>
          right
          have h7 := glue_app 47 (a :: r) (by simp) (splitOn 47 d) (splitOn_ne 47 d)
          rw [← h6, h5, glue_split, glue_split] at h7
          rw [h7]
          have h8 : d ++ 47 :: glueL [47] (List.drop (splitOn 47 d).length (splitOn 47 s)) = (d ++ [47]) ++ glueL [47] (List.drop (splitOn 47 d).length (splitOn 47 s)) := by simp
          rw [h8]
          exact hasPre_app _ _
      · rintro (h3 | h3)
        · subst h3
          simp
        · have h4 := hasPre_is h3
          have h5 : s = d ++ 47 :: s.drop (d ++ [47]).length := by
            rw [List.append_assoc] at h4
            exact h4
          have h6 := splitOn_app 47 (s.drop (d ++ [47]).length) d
          rw [← h5] at h6
          rw [h6]
          simp
end Go.Proofs.YteimhnedflbkmaaDoor

/- What Norm, Join and Under tell, in plain words. No further condition. -/
set_option linter.unusedVariables false
set_option linter.unusedSimpArgs false
namespace Go.Proofs.YteimhnedflbkmaaDoor
open Go.Ab

theorem closed0 : ∀ z, z ∈ ([] : List AV) → Closed z := by simp
theorem self_eq (s : Bytes) : (s == s) = true := by simp
theorem all2 {a b : Bytes} (h : ([a, b].all fun s => decide (s.length ≤ 300)) = true) : a.length ≤ 300 ∧ b.length ≤ 300 := by simpa using h
theorem all3 {a b c : Bytes} (h : ([a, b, c].all fun s => decide (s.length ≤ 300)) = true) : a.length ≤ 300 ∧ b.length ≤ 300 ∧ c.length ≤ 300 := by simpa using h

theorem step_name {l : List Bytes} {p : Bytes} (h : isNameB p = true) : stepN (some l) p = some (l ++ [p]) := by
  obtain ⟨h1, h2, h3, _⟩ := isName_no h
  simp [stepN, h1, h2, h3, h]
theorem fold_names : ∀ (L l : List Bytes), (∀ p, p ∈ L → isNameB p = true) → L.foldl stepN (some l) = some (l ++ L)
  | [], l, _ => by simp
  | p :: r, l, h => by
    rw [List.foldl_cons, step_name (h p (by simp)), fold_names r (l ++ [p]) (fun q hq => h q (by simp [hq]))]
    simp
theorem normL_path {s : Bytes} (h : isPathB s = true) (h0 : s ≠ []) : normL s = some (splitOn 47 s) := by
  unfold normL
  rw [fold_names _ _ (path_names h h0)]
  rfl
theorem normL_app (x y : Bytes) : normL (x ++ 47 :: y) = (splitOn 47 y).foldl stepN (normL x) := by
  unfold normL
  rw [splitOn_app, List.foldl_append]
theorem normB_path {s : Bytes} (h : isPathB s = true) : normB s = (s, 0) := by
  have hl := path_len h
  unfold normB
  rw [if_neg (by omega)]
  by_cases h0 : s = []
  · subst h0; rfl
  · rw [normL_path h h0]
    simp only [glue_split]
    rw [if_pos h]
theorem normB_cases (s : Bytes) : normB s = ([], 20) ∨ ∃ l, normL s = some l ∧ isPathB (glueL [47] l) = true ∧ normB s = (glueL [47] l, 0) := by
  unfold normB
  split
  · exact .inl rfl
  · cases h : normL s with
    | none => exact .inl rfl
    | some l =>
      simp only
      split
      · rename_i hp
        exact .inr ⟨l, rfl, hp, rfl⟩
      · exact .inl rfl
theorem normB_of {s : Bytes} {l : List Bytes} (h : normL s = some l) (hs : s.length ≤ 400) : normB s = if isPathB (glueL [47] l) = true then (glueL [47] l, 0) else ([], 20) := by
  unfold normB
  rw [if_neg (by omega), h]
theorem normB_none {s : Bytes} (h : normL s = none) (hs : s.length ≤ 400) : normB s = ([], 20) := by
  unfold normB
  rw [if_neg (by omega), h]
theorem normB_same {x y : Bytes} (h : normL x = normL y) (hx : x.length ≤ 400) (hy : y.length ≤ 400) : normB x = normB y := by
  unfold normB
  rw [if_neg (by omega), if_neg (by omega), h]

def sizeL (l : List Bytes) : Nat := (l.map fun p => p.length + 1).sum
theorem size_app (a b : List Bytes) : sizeL (a ++ b) = sizeL a + sizeL b := by simp [sizeL]
theorem size_drop (l : List Bytes) : sizeL l.dropLast ≤ sizeL l := by
  by_cases h : l = []
  · subst h; exact Nat.le_refl _
  · have := size_app l.dropLast [l.getLast h]
    rw [List.dropLast_concat_getLast h] at this
    omega
theorem step_size {l l' : List Bytes} {p : Bytes} (h : stepN (some l) p = some l') : sizeL l' ≤ sizeL l + (p.length + 1) := by
  unfold stepN at h
  simp only at h
  split at h
  · cases h; omega
  · split at h
    · split at h
      · cases h
      · cases h
        have := size_drop l
        omega
    · split at h
      · cases h
        rw [size_app]
        simp [sizeL]
      · cases h
theorem fold_size : ∀ (L l l' : List Bytes), L.foldl stepN (some l) = some l' → sizeL l' ≤ sizeL l + sizeL L
  | [], l, l', h => by cases h; simp [sizeL]
  | p :: r, l, l', h => by
    rw [List.foldl_cons] at h
    cases h1 : stepN (some l) p with
    | none => rw [h1, fold_none] at h; cases h
    | some m =>
      rw [h1] at h
      have h2 := fold_size r m l' h
      have h3 := step_size h1
      have h4 : sizeL (p :: r) = p.length + 1 + sizeL r := by simp [sizeL]
      omega
theorem step_names {l l' : List Bytes} {p : Bytes} (h : stepN (some l) p = some l') (hl : ∀ q, q ∈ l → isNameB q = true) : ∀ q, q ∈ l' → isNameB q = true := by
  unfold stepN at h
  simp only at h
  split at h
  · cases h; exact hl
  · split at h
    · split at h
      · cases h
      · cases h
        exact fun q hq => hl q (List.dropLast_subset l hq)
    · split at h
      · rename_i hp
        cases h
        intro q hq
        rcases List.mem_append.1 hq with hq | hq
        · exact hl q hq
        · simp at hq
          exact hq ▸ hp
      · cases h
theorem fold_isNames : ∀ (L l l' : List Bytes), L.foldl stepN (some l) = some l' → (∀ q, q ∈ l → isNameB q = true) → ∀ q, q ∈ l' → isNameB q = true
  | [], l, l', h, hl => by cases h; exact hl
  | p :: r, l, l', h, hl => by
    rw [List.foldl_cons] at h
    cases h1 : stepN (some l) p with
    | none => rw [h1, fold_none] at h; cases h
    | some m =>
      rw [h1] at h
      exact fold_isNames r m l' h (step_names h1 hl)
theorem size_split : ∀ s : Bytes, sizeL (splitOn 47 s) = s.length + 1
  | [] => rfl
  | b :: l => by
    have ih := size_split l
    rw [splitOn]
    by_cases hb : b = 47
    · rw [if_pos hb]
      simp [sizeL] at ih ⊢
      omega
    · rw [if_neg hb]
      cases h : splitOn 47 l with
      | nil => exact absurd h (splitOn_ne 47 l)
      | cons p r =>
        rw [h] at ih
        simp [sizeL] at ih ⊢
        omega
theorem size_glue : ∀ l : List Bytes, (glueL [47] l).length ≤ sizeL l - 1
  | [] => Nat.zero_le _
  | [p] => by simp [glueL, sizeL]
  | p :: q :: r => by
    have ih := size_glue (q :: r)
    rw [glueL_cons _ p (r := q :: r) (by simp)]
    have : sizeL (q :: r) = q.length + 1 + sizeL r := by simp [sizeL]
    have : sizeL (p :: q :: r) = p.length + 1 + sizeL (q :: r) := by simp [sizeL]
    simp
    omega
theorem norm_small {s : Bytes} {l : List Bytes} (h : normL s = some l) : (glueL [47] l).length ≤ s.length := by
  have h1 := fold_size _ _ _ h
  have h2 := size_split s
  have h3 := size_glue l
  have h4 : sizeL [] = 0 := rfl
  omega
theorem norm_names {s : Bytes} {l : List Bytes} (h : normL s = some l) : ∀ q, q ∈ l → isNameB q = true := fold_isNames _ _ _ h (by simp)
theorem normL_glue {l : List Bytes} (h : ∀ q, q ∈ l → isNameB q = true) : normL (glueL [47] l) = some l := by
  by_cases h0 : l = []
  · subst h0; rfl
  · unfold normL
    rw [split_glue 47 l h0 (fun p hp => (isName_no (h p hp)).2.2.2), fold_names _ _ h]
    rfl

theorem join_join {d s t a : Bytes} (h : joinB d s = (a, 0)) (hl : d.length + s.length + t.length ≤ 300) : joinB a t = joinB d (s ++ 47 :: t) := by
  unfold joinB at h ⊢
  cases hd : isPathB d
  · rw [hd] at h
    simp at h
  · rw [hd, if_pos rfl] at h
    rcases normB_cases (d ++ 47 :: s) with h1 | ⟨l, h1, h2, h3⟩
    · rw [h1] at h
      simp at h
    · rw [h3] at h
      cases h
      rw [if_pos h2, if_pos rfl]
      have h4 := norm_small h1
      simp at h4
      refine normB_same ?_ (by simp; omega) (by simp; omega)
      have h5 : d ++ 47 :: (s ++ 47 :: t) = (d ++ 47 :: s) ++ 47 :: t := by simp
      rw [h5, normL_app, normL_app, h1, normL_glue (norm_names h1)]
theorem join_cases (d s : Bytes) : joinB d s = ([], 20) ∨ ∃ a, joinB d s = (a, 0) ∧ isPathB a = true ∧ a.length ≤ d.length + s.length + 1 := by
  unfold joinB
  split
  · rcases normB_cases (d ++ 47 :: s) with h1 | ⟨l, h1, h2, h3⟩
    · exact .inl h1
    · refine .inr ⟨_, h3, h2, ?_⟩
      have h4 := norm_small h1
      simp at h4
      omega
  · exact .inl rfl

theorem under_self (a : Bytes) : underB a a = isPathB a := by
  unfold underB
  simp
theorem under_root (a : Bytes) : underB [] a = isPathB a := by
  unfold underB
  simp [path_nil]
theorem under_cases {d s : Bytes} (h : underB d s = true) : isPathB d = true ∧ isPathB s = true ∧ (d = [] ∨ d = s ∨ ∃ r, s = d ++ 47 :: r) := by
  unfold underB at h
  simp only [Bool.and_eq_true, Bool.or_eq_true, beq_iff_eq] at h
  refine ⟨h.1.1, h.1.2, ?_⟩
  rcases h.2 with (h | h) | h
  · exact .inl h
  · exact .inr (.inl h)
  · refine .inr (.inr ⟨s.drop (d ++ [47]).length, ?_⟩)
    have := hasPre_is h
    rw [List.append_assoc] at this
    exact this
theorem under_of {d s : Bytes} (h1 : isPathB d = true) (h2 : isPathB s = true) (h : d = [] ∨ d = s ∨ ∃ r, s = d ++ 47 :: r) : underB d s = true := by
  unfold underB
  rw [h1, h2]
  rcases h with h | h | ⟨r, h⟩
  · simp [h]
  · simp [h]
  · have : s = (d ++ [47]) ++ r := by rw [h]; simp
    have := hasPre_app (d ++ [47]) r
    rw [← ‹s = (d ++ [47]) ++ r›] at this
    simp [this]
theorem under_trans {a b c : Bytes} (h1 : underB a b = true) (h2 : underB b c = true) : underB a c = true := by
  obtain ⟨pa, pb, h3⟩ := under_cases h1
  obtain ⟨_, pc, h4⟩ := under_cases h2
  refine under_of pa pc ?_
  rcases h3 with h3 | h3 | ⟨r, h3⟩
  · exact .inl h3
  · subst h3; exact h4
  · rcases h4 with h4 | h4 | ⟨q, h4⟩
    · subst h4
      simp at h3
    · subst h4; exact .inr (.inr ⟨r, h3⟩)
    · exact .inr (.inr ⟨r ++ 47 :: q, by rw [h4, h3]; simp⟩)
theorem under_anti {a b : Bytes} (h1 : underB a b = true) (h2 : underB b a = true) : a = b := by
  obtain ⟨_, _, h3⟩ := under_cases h1
  obtain ⟨_, _, h4⟩ := under_cases h2
  rcases h3 with h3 | h3 | ⟨r, h3⟩
  · rcases h4 with h4 | h4 | ⟨q, h4⟩
    · rw [h3, h4]
    · exact h4.symm
    · rw [h3] at h4; simp at h4
  · exact h3
  · rcases h4 with h4 | h4 | ⟨q, h4⟩
    · rw [h4] at h3; simp at h3
    · exact h4.symm
    · have e1 := congrArg List.length h3
      have e2 := congrArg List.length h4
      simp at e1 e2
      omega

/-- A path is its parent's, or it has none. -/
theorem cut_cases (s : Bytes) : (cutB s = ([], [], false) ∧ (s = [] ∨ isPathB s = false)) ∨
    ∃ p b : Bytes, cutB s = (p, b, true) ∧ isPathB s = true ∧ isPathB p = true ∧ p.length + b.length ≤ s.length ∧ joinB p b = (s, 0) ∧ underB p s = true ∧ underB s p = false ∧ depthB p + 1 = depthB s := by
  by_cases h0 : s = []
  · left
    refine ⟨?_, .inl h0⟩
    unfold cutB
    rw [if_pos (.inl h0)]
  · cases hp : isPathB s
    · left
      refine ⟨?_, .inr rfl⟩
      unfold cutB
      rw [if_pos (.inr hp)]
    · right
      have hns := path_names hp h0
      have hl := path_len hp
      have hds : depthB s = ((splitOn 47 s).length : Int) := by
        rw [split_count]
        unfold depthB
        rw [if_neg (by simp [hp]), if_neg h0]
        push_cast; rfl
      have huns : ∀ p : Bytes, p.length < s.length → underB s p = false := by
        intro p hlt
        cases hu : underB s p
        · rfl
        · exfalso
          obtain ⟨_, _, h3⟩ := under_cases hu
          rcases h3 with h3 | h3 | ⟨r, h3⟩
          · exact h0 h3
          · subst h3; omega
          · rw [h3] at hlt; simp at hlt; omega
      have hpos : 0 < s.length := List.length_pos_iff.2 h0
      rcases last_cut s with ⟨h1, h2⟩ | ⟨p, b, h1, h2, h3⟩
      · refine ⟨[], s, ?_, rfl, rfl, by simp, ?_, ?_, huns [] (by simpa using hpos), ?_⟩
        · unfold cutB
          rw [if_neg (by simp [h0, hp]), h1]
          simp
        · unfold joinB
          rw [if_pos path_nil]
          show normB (47 :: s) = _
          have e1 : normL (47 :: s) = normL s := by
            have := normL_app [] s
            exact this
          rw [normB_of (e1.trans (normL_path hp h0)) (by simp; omega), glue_split, if_pos hp]
        · exact under_of path_nil hp (.inl rfl)
        · rw [hds, h2]; rfl
      · have hp0 : p ≠ [] := by
          intro h
          subst h
          have := hns [] (by rw [h3]; simp [splitOn])
          exact (isName_no this).1 rfl
        have pp : isPathB p = true := by
          refine (path_iff p).2 (.inr ⟨fun q hq => hns q (by rw [h3]; simp [hq]), ?_⟩)
          have := congrArg List.length h2
          simp at this
          omega
        have hlen : s.length = p.length + 1 + b.length := by
          rw [h2]; simp; omega
        refine ⟨p, b, ?_, rfl, pp, by omega, ?_, ?_, huns p (by omega), ?_⟩
        · unfold cutB
          rw [if_neg (by simp [h0, hp]), h1]
          have e2 : ((p.length : Int) + 1).toNat = p.length + 1 := by omega
          rw [e2, h2]
          simp
        · unfold joinB
          rw [if_pos pp, ← h2]
          exact normB_path hp
        · exact under_of pp hp (.inr (.inr ⟨b, h2⟩))
        · rw [hds, h3]
          unfold depthB
          rw [if_neg (by simp [pp]), if_neg hp0]
          simp [split_count]
end Go.Proofs.YteimhnedflbkmaaDoor

/- The document's rows on paths hold. No further condition. -/
set_option linter.unusedVariables false
set_option linter.unusedSimpArgs false
namespace Go.Proofs.YteimhnedflbkmaaDoor
open Go.Ab

set_option maxRecDepth 100000 in
theorem paths_ok : APure Tryd.prog 30 [] (.bool true) := by
  refine pure_sub closed0 closed_bool ?_
  refine acalls_of tabOK Tryd.func30 rfl (by decide) (by simp [Tryd.f30]) ?_
  have k1 := norm_ok [47, 97, 47, 47, 98, 47, 46, 47, 99, 47, 46, 46, 47, 100, 47] (by simp)
  have e1 : normB [47, 97, 47, 47, 98, 47, 46, 47, 99, 47, 46, 46, 47, 100, 47] = ([97, 47, 98, 47, 100], 0) := by decide
  rw [e1] at k1
  have k2 := norm_ok [46, 46] (by simp)
  have e2 : normB [46, 46] = ([], 20) := by decide
  rw [e2] at k2
  have k3 := norm_ok [] (by simp)
  have e3 : normB [] = ([], 0) := by decide
  rw [e3] at k3
  have k4 := parent_ok [97, 47, 98] (by simp)
  have e4 : ((cutB [97, 47, 98]).1, (cutB [97, 47, 98]).2.2) = ([97], true) := by decide
  rw [e4] at k4
  have k5 := under_ok [97] [97, 47, 98] (by simp) (by simp)
  have e5 : underB [97] [97, 47, 98] = true := by decide
  rw [e5] at k5
  have k6 := under_ok [97] [97, 98] (by simp) (by simp)
  have e6 : underB [97] [97, 98] = false := by decide
  rw [e6] at k6
  have k7 := isPath_ok [97, 47, 98] (by simp)
  have e7 : isPathB [97, 47, 98] = true := by decide
  rw [e7] at k7
  have k8 := isPath_ok [97, 47, 47, 98] (by simp)
  have e8 : isPathB [97, 47, 47, 98] = false := by decide
  rw [e8] at k8
  have k9 := depth_ok [97, 47, 98] (by simp)
  have e9 : depthB [97, 47, 98] = 2 := by decide
  rw [e9] at k9
  repeat' (first | (show DW _ _ _ _ _ _ _ _; first | refine DW_A tabs rfl ?_ | refine DW_nil ?_ | refine DW_lits tabOK rfl rfl rfl rfl rfl rfl rfl rfl rfl rfl rfl rfl rfl ?_ | refine DW_pure rfl rfl rfl rfl rfl k1 ?_ | refine DW_pure rfl rfl rfl rfl rfl k2 ?_ | refine DW_pure rfl rfl rfl rfl rfl k3 ?_ | refine DW_pure rfl rfl rfl rfl rfl k4 ?_ | refine DW_pure rfl rfl rfl rfl rfl k5 ?_ | refine DW_pure rfl rfl rfl rfl rfl k6 ?_ | refine DW_pure rfl rfl rfl rfl rfl k7 ?_ | refine DW_pure rfl rfl rfl rfl rfl k8 ?_ | refine DW_pure rfl rfl rfl rfl rfl k9 ?_ | refine DW_append_own tabOK rfl rfl rfl rfl rfl rfl rfl rfl rfl rfl rfl rfl rfl rfl rfl (by simp; omega) (by simp; omega) ?_) | (show W _ _ _ _ _ _; first | refine W_seq ?_ | refine W_text rfl (fun _ _ _ h => h) ?_ | refine W_block ?_ | refine W_skip ?_ | refine W_exit ?_ | refine W_ret ?_ | refine W_true rfl ?_ | refine W_false rfl ?_ | refine W_cond rfl (fun _ => ?_) (fun _ => ?_)))
  exact ⟨rfl, _, rfl, _, rfl, SubC.of_closed closed_bool⟩
end Go.Proofs.YteimhnedflbkmaaDoor

/- cmp.Compare, at texts and at numbers, tells what its text says. No further condition. -/
set_option linter.unusedVariables false
set_option linter.unusedSimpArgs false
namespace Go.Proofs.YteimhnedflbkmaaDoor
open Go.Ab

theorem isNaNs_ok (s : Bytes) : APure Tryd.prog 69 [.str s] (.bool false) := by
  intro M
  refine acalls_of tabOK Tryd.func69 rfl (by decide) (by simp [Tryd.f69]) ?_
  have h : (!(s == s)) = false := by simp
  repeat' (first | (show DW _ _ _ _ _ _ _ _; first | refine DW_V tabs rfl rfl rfl rfl (congrArg AV.bool h) ?_ | refine DW_A tabs rfl ?_ | refine DW_nil ?_ | refine DW_lits tabOK rfl rfl rfl rfl rfl rfl rfl rfl rfl rfl rfl rfl rfl ?_ | refine DW_append_own tabOK rfl rfl rfl rfl rfl rfl rfl rfl rfl rfl rfl rfl rfl rfl rfl (by simp; omega) (by simp; omega) ?_) | (show W _ _ _ _ _ _; first | refine W_seq ?_ | refine W_text rfl (fun _ _ _ h => h) ?_ | refine W_block ?_ | refine W_skip ?_ | refine W_exit ?_ | refine W_ret ?_ | refine W_true rfl ?_ | refine W_false rfl ?_ | refine W_cond rfl (fun _ => ?_) (fun _ => ?_)))
  exact ⟨rfl, _, rfl, rfl, rfl⟩
theorem isNaNi_ok (s : Int) : APure Tryd.prog 70 [.int .i64 s] (.bool false) := by
  intro M
  refine acalls_of tabOK Tryd.func70 rfl (by decide) (by simp [Tryd.f70]) ?_
  have h : (!decide (s = s)) = false := by simp
  repeat' (first | (show DW _ _ _ _ _ _ _ _; first | refine DW_V tabs rfl rfl rfl rfl (congrArg AV.bool h) ?_ | refine DW_A tabs rfl ?_ | refine DW_nil ?_ | refine DW_lits tabOK rfl rfl rfl rfl rfl rfl rfl rfl rfl rfl rfl rfl rfl ?_ | refine DW_append_own tabOK rfl rfl rfl rfl rfl rfl rfl rfl rfl rfl rfl rfl rfl rfl rfl (by simp; omega) (by simp; omega) ?_) | (show W _ _ _ _ _ _; first | refine W_seq ?_ | refine W_text rfl (fun _ _ _ h => h) ?_ | refine W_block ?_ | refine W_skip ?_ | refine W_exit ?_ | refine W_ret ?_ | refine W_true rfl ?_ | refine W_false rfl ?_ | refine W_cond rfl (fun _ => ?_) (fun _ => ?_)))
  exact ⟨rfl, _, rfl, rfl, rfl⟩

def cmpS (a b : Bytes) : Int := if Op.bytesLess a b = true then -1 else if (a == b) = true then 0 else 1
def cmpI (a b : Int) : Int := if a < b then -1 else if b < a then 1 else 0

theorem compareI_ok (a b : Int) : APure Tryd.prog 58 [.int .i64 a, .int .i64 b] (.int .i64 (cmpI a b)) := by
  intro M
  refine acalls_of tabOK Tryd.func58 rfl (by decide) (by simp [Tryd.f58]) ?_
  repeat' (first | (show DW _ _ _ _ _ _ _ _; first | refine DW_A tabs rfl ?_ | refine DW_nil ?_ | refine DW_lits tabOK rfl rfl rfl rfl rfl rfl rfl rfl rfl rfl rfl rfl rfl ?_ | refine DW_append_own tabOK rfl rfl rfl rfl rfl rfl rfl rfl rfl rfl rfl rfl rfl rfl rfl (by simp; omega) (by simp; omega) ?_) | (show W _ _ _ _ _ _; first | refine W_seq ?_ | refine W_text rfl (fun _ _ _ h => h) ?_ | refine W_block ?_ | refine W_skip ?_ | refine W_exit ?_ | refine W_ret ?_ | refine W_true rfl ?_ | refine W_false rfl ?_ | refine W_cond rfl (fun _ => ?_) (fun _ => ?_)))
  refine DW_pure rfl rfl rfl rfl rfl (isNaNi_ok a) ?_
  repeat' (first | (show DW _ _ _ _ _ _ _ _; first | refine DW_A tabs rfl ?_ | refine DW_nil ?_ | refine DW_lits tabOK rfl rfl rfl rfl rfl rfl rfl rfl rfl rfl rfl rfl rfl ?_ | refine DW_append_own tabOK rfl rfl rfl rfl rfl rfl rfl rfl rfl rfl rfl rfl rfl rfl rfl (by simp; omega) (by simp; omega) ?_) | (show W _ _ _ _ _ _; first | refine W_seq ?_ | refine W_text rfl (fun _ _ _ h => h) ?_ | refine W_block ?_ | refine W_skip ?_ | refine W_exit ?_ | refine W_ret ?_ | refine W_true rfl ?_ | refine W_false rfl ?_ | refine W_cond rfl (fun _ => ?_) (fun _ => ?_)))
  refine DW_pure rfl rfl rfl rfl rfl (isNaNi_ok b) ?_
  by_cases h1 : a < b
  · have d1 : decide (a < b) = true := by simp [h1]
    have e : cmpI a b = -1 := by simp [cmpI, h1]
    rw [e]
    repeat' (first | (show DW _ _ _ _ _ _ _ _; first | refine DW_V tabs rfl rfl rfl rfl (congrArg AV.bool d1) ?_ | refine DW_A tabs rfl ?_ | refine DW_nil ?_ | refine DW_lits tabOK rfl rfl rfl rfl rfl rfl rfl rfl rfl rfl rfl rfl rfl ?_ | refine DW_append_own tabOK rfl rfl rfl rfl rfl rfl rfl rfl rfl rfl rfl rfl rfl rfl rfl (by simp; omega) (by simp; omega) ?_) | (show W _ _ _ _ _ _; first | refine W_seq ?_ | refine W_text rfl (fun _ _ _ h => h) ?_ | refine W_block ?_ | refine W_skip ?_ | refine W_exit ?_ | refine W_ret ?_ | refine W_true rfl ?_ | refine W_false rfl ?_ | refine W_cond rfl (fun _ => ?_) (fun _ => ?_)))
    exact ⟨rfl, _, rfl, rfl, rfl⟩
  · have d1 : decide (a < b) = false := by simp [h1]
    by_cases h2 : b < a
    · have d2 : decide (b < a) = true := by simp [h2]
      have e : cmpI a b = 1 := by simp [cmpI, h1, h2]
      rw [e]
      repeat' (first | (show DW _ _ _ _ _ _ _ _; first | refine DW_V tabs rfl rfl rfl rfl (congrArg AV.bool d1) ?_ | refine DW_V tabs rfl rfl rfl rfl (congrArg AV.bool d2) ?_ | refine DW_A tabs rfl ?_ | refine DW_nil ?_ | refine DW_lits tabOK rfl rfl rfl rfl rfl rfl rfl rfl rfl rfl rfl rfl rfl ?_ | refine DW_append_own tabOK rfl rfl rfl rfl rfl rfl rfl rfl rfl rfl rfl rfl rfl rfl rfl (by simp; omega) (by simp; omega) ?_) | (show W _ _ _ _ _ _; first | refine W_seq ?_ | refine W_text rfl (fun _ _ _ h => h) ?_ | refine W_block ?_ | refine W_skip ?_ | refine W_exit ?_ | refine W_ret ?_ | refine W_true rfl ?_ | refine W_false rfl ?_ | refine W_cond rfl (fun _ => ?_) (fun _ => ?_)))
      exact ⟨rfl, _, rfl, rfl, rfl⟩
    · have d2 : decide (b < a) = false := by simp [h2]
      have e : cmpI a b = 0 := by simp [cmpI, h1, h2]
      rw [e]
      repeat' (first | (show DW _ _ _ _ _ _ _ _; first | refine DW_V tabs rfl rfl rfl rfl (congrArg AV.bool d1) ?_ | refine DW_V tabs rfl rfl rfl rfl (congrArg AV.bool d2) ?_ | refine DW_A tabs rfl ?_ | refine DW_nil ?_ | refine DW_lits tabOK rfl rfl rfl rfl rfl rfl rfl rfl rfl rfl rfl rfl rfl ?_ | refine DW_append_own tabOK rfl rfl rfl rfl rfl rfl rfl rfl rfl rfl rfl rfl rfl rfl rfl (by simp; omega) (by simp; omega) ?_) | (show W _ _ _ _ _ _; first | refine W_seq ?_ | refine W_text rfl (fun _ _ _ h => h) ?_ | refine W_block ?_ | refine W_skip ?_ | refine W_exit ?_ | refine W_ret ?_ | refine W_true rfl ?_ | refine W_false rfl ?_ | refine W_cond rfl (fun _ => ?_) (fun _ => ?_)))
      exact ⟨rfl, _, rfl, rfl, rfl⟩

theorem compareS_ok (a b : Bytes) : APure Tryd.prog 57 [.str a, .str b] (.int .i64 (cmpS a b)) := by
  intro M
  refine acalls_of tabOK Tryd.func57 rfl (by decide) (by simp [Tryd.f57]) ?_
  repeat' (first | (show DW _ _ _ _ _ _ _ _; first | refine DW_A tabs rfl ?_ | refine DW_nil ?_ | refine DW_lits tabOK rfl rfl rfl rfl rfl rfl rfl rfl rfl rfl rfl rfl rfl ?_ | refine DW_append_own tabOK rfl rfl rfl rfl rfl rfl rfl rfl rfl rfl rfl rfl rfl rfl rfl (by simp; omega) (by simp; omega) ?_) | (show W _ _ _ _ _ _; first | refine W_seq ?_ | refine W_text rfl (fun _ _ _ h => h) ?_ | refine W_block ?_ | refine W_skip ?_ | refine W_exit ?_ | refine W_ret ?_ | refine W_true rfl ?_ | refine W_false rfl ?_ | refine W_cond rfl (fun _ => ?_) (fun _ => ?_)))
  refine DW_pure rfl rfl rfl rfl rfl (isNaNs_ok a) ?_
  repeat' (first | (show DW _ _ _ _ _ _ _ _; first | refine DW_A tabs rfl ?_ | refine DW_nil ?_ | refine DW_lits tabOK rfl rfl rfl rfl rfl rfl rfl rfl rfl rfl rfl rfl rfl ?_ | refine DW_append_own tabOK rfl rfl rfl rfl rfl rfl rfl rfl rfl rfl rfl rfl rfl rfl rfl (by simp; omega) (by simp; omega) ?_) | (show W _ _ _ _ _ _; first | refine W_seq ?_ | refine W_text rfl (fun _ _ _ h => h) ?_ | refine W_block ?_ | refine W_skip ?_ | refine W_exit ?_ | refine W_ret ?_ | refine W_true rfl ?_ | refine W_false rfl ?_ | refine W_cond rfl (fun _ => ?_) (fun _ => ?_)))
  refine DW_pure rfl rfl rfl rfl rfl (isNaNs_ok b) ?_
  cases h1 : Op.bytesLess a b
  · cases h2 : a == b
    · have d2 : (!(Op.bytesLess a b || a == b)) = true := by rw [h1, h2]; rfl
      have e : cmpS a b = 1 := by simp [cmpS, h1, h2]
      rw [e]
      repeat' (first | (show DW _ _ _ _ _ _ _ _; first | refine DW_V tabs rfl rfl rfl rfl (congrArg AV.bool h1) ?_ | refine DW_V tabs rfl rfl rfl rfl (congrArg AV.bool d2) ?_ | refine DW_A tabs rfl ?_ | refine DW_nil ?_ | refine DW_lits tabOK rfl rfl rfl rfl rfl rfl rfl rfl rfl rfl rfl rfl rfl ?_ | refine DW_append_own tabOK rfl rfl rfl rfl rfl rfl rfl rfl rfl rfl rfl rfl rfl rfl rfl (by simp; omega) (by simp; omega) ?_) | (show W _ _ _ _ _ _; first | refine W_seq ?_ | refine W_text rfl (fun _ _ _ h => h) ?_ | refine W_block ?_ | refine W_skip ?_ | refine W_exit ?_ | refine W_ret ?_ | refine W_true rfl ?_ | refine W_false rfl ?_ | refine W_cond rfl (fun _ => ?_) (fun _ => ?_)))
      exact ⟨rfl, _, rfl, rfl, rfl⟩
    · have d2 : (!(Op.bytesLess a b || a == b)) = false := by rw [h1, h2]; rfl
      have e : cmpS a b = 0 := by simp [cmpS, h1, h2]
      rw [e]
      repeat' (first | (show DW _ _ _ _ _ _ _ _; first | refine DW_V tabs rfl rfl rfl rfl (congrArg AV.bool h1) ?_ | refine DW_V tabs rfl rfl rfl rfl (congrArg AV.bool d2) ?_ | refine DW_A tabs rfl ?_ | refine DW_nil ?_ | refine DW_lits tabOK rfl rfl rfl rfl rfl rfl rfl rfl rfl rfl rfl rfl rfl ?_ | refine DW_append_own tabOK rfl rfl rfl rfl rfl rfl rfl rfl rfl rfl rfl rfl rfl rfl rfl (by simp; omega) (by simp; omega) ?_) | (show W _ _ _ _ _ _; first | refine W_seq ?_ | refine W_text rfl (fun _ _ _ h => h) ?_ | refine W_block ?_ | refine W_skip ?_ | refine W_exit ?_ | refine W_ret ?_ | refine W_true rfl ?_ | refine W_false rfl ?_ | refine W_cond rfl (fun _ => ?_) (fun _ => ?_)))
      exact ⟨rfl, _, rfl, rfl, rfl⟩
  · have e : cmpS a b = -1 := by simp [cmpS, h1]
    rw [e]
    repeat' (first | (show DW _ _ _ _ _ _ _ _; first | refine DW_V tabs rfl rfl rfl rfl (congrArg AV.bool h1) ?_ | refine DW_A tabs rfl ?_ | refine DW_nil ?_ | refine DW_lits tabOK rfl rfl rfl rfl rfl rfl rfl rfl rfl rfl rfl rfl rfl ?_ | refine DW_append_own tabOK rfl rfl rfl rfl rfl rfl rfl rfl rfl rfl rfl rfl rfl rfl rfl (by simp; omega) (by simp; omega) ?_) | (show W _ _ _ _ _ _; first | refine W_seq ?_ | refine W_text rfl (fun _ _ _ h => h) ?_ | refine W_block ?_ | refine W_skip ?_ | refine W_exit ?_ | refine W_ret ?_ | refine W_true rfl ?_ | refine W_false rfl ?_ | refine W_cond rfl (fun _ => ?_) (fun _ => ?_)))
    exact ⟨rfl, _, rfl, rfl, rfl⟩
end Go.Proofs.YteimhnedflbkmaaDoor

/- Keys are compared as their texts and times. No further condition. -/
set_option linter.unusedVariables false
set_option linter.unusedSimpArgs false
namespace Go.Proofs.YteimhnedflbkmaaDoor
open Go.Ab

structure Ky where
  path : Bytes
  time : Int
deriving DecidableEq
def Ky.av (k : Ky) : AV := .agg [.str k.path, .int .i64 k.time]

/-- The first that is not 0, of two. -/
def first2 (a b : Int) : Int := if a = 0 then b else a

theorem first_ok (a b : Int) (tg : Tag) : APure Tryd.prog 56 [.sl 1 [.int .i64 a, .int .i64 b] tg] (.int .i64 (first2 a b)) := by
  intro M
  refine acalls_of tabOK Tryd.func56 rfl (by decide) (by simp [Tryd.f56]) ?_
  repeat' (first | (show DW _ _ _ _ _ _ _ _; first | refine DW_A tabs rfl ?_ | refine DW_nil ?_ | refine DW_lits tabOK rfl rfl rfl rfl rfl rfl rfl rfl rfl rfl rfl rfl rfl ?_ | refine DW_append_own tabOK rfl rfl rfl rfl rfl rfl rfl rfl rfl rfl rfl rfl rfl rfl rfl (by simp; omega) (by simp; omega) ?_) | (show W _ _ _ _ _ _; first | refine W_seq ?_ | refine W_text rfl (fun _ _ _ h => h) ?_ | refine W_block ?_ | refine W_skip ?_ | refine W_exit ?_ | refine W_ret ?_ | refine W_true rfl ?_ | refine W_false rfl ?_ | refine W_cond rfl (fun _ => ?_) (fun _ => ?_)))
  refine W_loop (fun m f N => N = M ∧ ((m = 2 ∧ f = ⟨[(5, .sl 1 [.int .i64 a, .int .i64 b] tg), (6, .int .i64 2), (7, .int .i64 0)], []⟩) ∨ (a = 0 ∧ m = 1 ∧ f = ⟨[(5, .sl 1 [.int .i64 a, .int .i64 b] tg), (6, .int .i64 2), (7, .int .i64 1)], []⟩) ∨
    (a = 0 ∧ b = 0 ∧ m = 0 ∧ f = ⟨[(5, .sl 1 [.int .i64 a, .int .i64 b] tg), (6, .int .i64 2), (7, .int .i64 2)], []⟩))) (k := 2) ⟨rfl, .inl ⟨rfl, rfl⟩⟩ (Joint.le ?_ (Mem.le_refl _)) ?_
  · skip
    repeat (refine AF.le_cons rfl ?_)
    exact AF.le_nil rfl
  · rintro m f N ⟨rfl, ⟨rfl, rfl⟩ | ⟨rfl, rfl, rfl⟩ | ⟨rfl, rfl, rfl, rfl⟩⟩
    · have w1 : IntKind.wrap .i64 (0 + 1) = 1 := rfl
      repeat' (first | (show DW _ _ _ _ _ _ _ _; first | refine DW_V tabs rfl rfl rfl rfl (congrArg (AV.int _) w1) ?_ | refine DW_A tabs rfl ?_ | refine DW_nil ?_ | refine DW_lits tabOK rfl rfl rfl rfl rfl rfl rfl rfl rfl rfl rfl rfl rfl ?_ | refine DW_append_own tabOK rfl rfl rfl rfl rfl rfl rfl rfl rfl rfl rfl rfl rfl rfl rfl (by simp; omega) (by simp; omega) ?_) | (show W _ _ _ _ _ _; first | refine W_seq ?_ | refine W_text rfl (fun _ _ _ h => h) ?_ | refine W_block ?_ | refine W_skip ?_ | refine W_exit ?_ | refine W_ret ?_ | refine W_true rfl ?_ | refine W_false rfl ?_ | refine W_cond rfl (fun _ => ?_) (fun _ => ?_)))
      refine DW_index tabOK rfl rfl rfl rfl rfl rfl rfl rfl rfl rfl (by decide) (x := .int .i64 a) rfl ?_
      by_cases h : a = 0
      · have d : (!decide (a = 0)) = false := by simp [h]
        repeat' (first | (show DW _ _ _ _ _ _ _ _; first | refine DW_V tabs rfl rfl rfl rfl (congrArg AV.bool d) ?_ | refine DW_V tabs rfl rfl rfl rfl (congrArg (AV.int _) w1) ?_ | refine DW_A tabs rfl ?_ | refine DW_nil ?_ | refine DW_lits tabOK rfl rfl rfl rfl rfl rfl rfl rfl rfl rfl rfl rfl rfl ?_ | refine DW_append_own tabOK rfl rfl rfl rfl rfl rfl rfl rfl rfl rfl rfl rfl rfl rfl rfl (by simp; omega) (by simp; omega) ?_) | (show W _ _ _ _ _ _; first | refine W_seq ?_ | refine W_text rfl (fun _ _ _ h => h) ?_ | refine W_block ?_ | refine W_skip ?_ | refine W_exit ?_ | refine W_ret ?_ | refine W_true rfl ?_ | refine W_false rfl ?_ | refine W_cond rfl (fun _ => ?_) (fun _ => ?_)))
        exact ⟨1, _, _, by omega, ⟨rfl, .inr (.inl ⟨h, rfl, rfl⟩)⟩, Joint.le (AF.le_cons rfl (AF.le_cons rfl (AF.le_cons rfl (AF.le_nil rfl)))) (Mem.le_refl _)⟩
      · have d : (!decide (a = 0)) = true := by simp [h]
        repeat' (first | (show DW _ _ _ _ _ _ _ _; first | refine DW_V tabs rfl rfl rfl rfl (congrArg AV.bool d) ?_ | refine DW_V tabs rfl rfl rfl rfl (congrArg (AV.int _) w1) ?_ | refine DW_A tabs rfl ?_ | refine DW_nil ?_ | refine DW_lits tabOK rfl rfl rfl rfl rfl rfl rfl rfl rfl rfl rfl rfl rfl ?_ | refine DW_append_own tabOK rfl rfl rfl rfl rfl rfl rfl rfl rfl rfl rfl rfl rfl rfl rfl (by simp; omega) (by simp; omega) ?_) | (show W _ _ _ _ _ _; first | refine W_seq ?_ | refine W_text rfl (fun _ _ _ h => h) ?_ | refine W_block ?_ | refine W_skip ?_ | refine W_exit ?_ | refine W_ret ?_ | refine W_true rfl ?_ | refine W_false rfl ?_ | refine W_cond rfl (fun _ => ?_) (fun _ => ?_)))
        exact ⟨rfl, _, rfl, ret_int (by simp [first2, h]), rfl⟩
    · have w1 : IntKind.wrap .i64 (1 + 1) = 2 := rfl
      repeat' (first | (show DW _ _ _ _ _ _ _ _; first | refine DW_V tabs rfl rfl rfl rfl (congrArg (AV.int _) w1) ?_ | refine DW_A tabs rfl ?_ | refine DW_nil ?_ | refine DW_lits tabOK rfl rfl rfl rfl rfl rfl rfl rfl rfl rfl rfl rfl rfl ?_ | refine DW_append_own tabOK rfl rfl rfl rfl rfl rfl rfl rfl rfl rfl rfl rfl rfl rfl rfl (by simp; omega) (by simp; omega) ?_) | (show W _ _ _ _ _ _; first | refine W_seq ?_ | refine W_text rfl (fun _ _ _ h => h) ?_ | refine W_block ?_ | refine W_skip ?_ | refine W_exit ?_ | refine W_ret ?_ | refine W_true rfl ?_ | refine W_false rfl ?_ | refine W_cond rfl (fun _ => ?_) (fun _ => ?_)))
      refine DW_index tabOK rfl rfl rfl rfl rfl rfl rfl rfl rfl rfl (by decide) (x := .int .i64 b) rfl ?_
      by_cases h : b = 0
      · have d : (!decide (b = 0)) = false := by simp [h]
        repeat' (first | (show DW _ _ _ _ _ _ _ _; first | refine DW_V tabs rfl rfl rfl rfl (congrArg AV.bool d) ?_ | refine DW_V tabs rfl rfl rfl rfl (congrArg (AV.int _) w1) ?_ | refine DW_A tabs rfl ?_ | refine DW_nil ?_ | refine DW_lits tabOK rfl rfl rfl rfl rfl rfl rfl rfl rfl rfl rfl rfl rfl ?_ | refine DW_append_own tabOK rfl rfl rfl rfl rfl rfl rfl rfl rfl rfl rfl rfl rfl rfl rfl (by simp; omega) (by simp; omega) ?_) | (show W _ _ _ _ _ _; first | refine W_seq ?_ | refine W_text rfl (fun _ _ _ h => h) ?_ | refine W_block ?_ | refine W_skip ?_ | refine W_exit ?_ | refine W_ret ?_ | refine W_true rfl ?_ | refine W_false rfl ?_ | refine W_cond rfl (fun _ => ?_) (fun _ => ?_)))
        exact ⟨0, _, _, by omega, ⟨rfl, .inr (.inr ⟨rfl, h, rfl, rfl⟩)⟩, Joint.le (AF.le_cons rfl (AF.le_cons rfl (AF.le_cons rfl (AF.le_nil rfl)))) (Mem.le_refl _)⟩
      · have d : (!decide (b = 0)) = true := by simp [h]
        repeat' (first | (show DW _ _ _ _ _ _ _ _; first | refine DW_V tabs rfl rfl rfl rfl (congrArg AV.bool d) ?_ | refine DW_V tabs rfl rfl rfl rfl (congrArg (AV.int _) w1) ?_ | refine DW_A tabs rfl ?_ | refine DW_nil ?_ | refine DW_lits tabOK rfl rfl rfl rfl rfl rfl rfl rfl rfl rfl rfl rfl rfl ?_ | refine DW_append_own tabOK rfl rfl rfl rfl rfl rfl rfl rfl rfl rfl rfl rfl rfl rfl rfl (by simp; omega) (by simp; omega) ?_) | (show W _ _ _ _ _ _; first | refine W_seq ?_ | refine W_text rfl (fun _ _ _ h => h) ?_ | refine W_block ?_ | refine W_skip ?_ | refine W_exit ?_ | refine W_ret ?_ | refine W_true rfl ?_ | refine W_false rfl ?_ | refine W_cond rfl (fun _ => ?_) (fun _ => ?_)))
        exact ⟨rfl, _, rfl, ret_int (by simp [first2]), rfl⟩
    · repeat' (first | (show DW _ _ _ _ _ _ _ _; first | refine DW_A tabs rfl ?_ | refine DW_nil ?_ | refine DW_lits tabOK rfl rfl rfl rfl rfl rfl rfl rfl rfl rfl rfl rfl rfl ?_ | refine DW_append_own tabOK rfl rfl rfl rfl rfl rfl rfl rfl rfl rfl rfl rfl rfl rfl rfl (by simp; omega) (by simp; omega) ?_) | (show W _ _ _ _ _ _; first | refine W_seq ?_ | refine W_text rfl (fun _ _ _ h => h) ?_ | refine W_block ?_ | refine W_skip ?_ | refine W_exit ?_ | refine W_ret ?_ | refine W_true rfl ?_ | refine W_false rfl ?_ | refine W_cond rfl (fun _ => ?_) (fun _ => ?_)))
      exact ⟨rfl, _, rfl, ret_int (by simp [first2]), rfl⟩

def toS (a b : Ky) : Int := first2 (cmpS a.path b.path) (cmpI b.time a.time)

theorem to_ok (a b : Ky) : APure Tryd.prog 43 [a.av, b.av] (.int .i64 (toS a b)) := by
  intro M
  refine acalls_of tabOK Tryd.func43 rfl (by decide) (by simp [Tryd.f43]) ?_
  repeat' (first | (show DW _ _ _ _ _ _ _ _; first | refine DW_A tabs rfl ?_ | refine DW_nil ?_ | refine DW_lits tabOK rfl rfl rfl rfl rfl rfl rfl rfl rfl rfl rfl rfl rfl ?_ | refine DW_append_own tabOK rfl rfl rfl rfl rfl rfl rfl rfl rfl rfl rfl rfl rfl rfl rfl (by simp; omega) (by simp; omega) ?_) | (show W _ _ _ _ _ _; first | refine W_seq ?_ | refine W_text rfl (fun _ _ _ h => h) ?_ | refine W_block ?_ | refine W_skip ?_ | refine W_exit ?_ | refine W_ret ?_ | refine W_true rfl ?_ | refine W_false rfl ?_ | refine W_cond rfl (fun _ => ?_) (fun _ => ?_) | refine W_draw mixed [0, 1, 2, 3, 4, 5, 6, 7, 8, 9, 10, 11, 12] [.R, .R, .R, .R, .P, .R, .R, .R, .R, .P, .P, .P, .P] rfl rfl (by kernel_rfl) ?_))
  refine DW_pure rfl rfl rfl rfl rfl (compareS_ok a.path b.path) ?_
  repeat' (first | (show DW _ _ _ _ _ _ _ _; first | refine DW_A tabs rfl ?_ | refine DW_nil ?_ | refine DW_lits tabOK rfl rfl rfl rfl rfl rfl rfl rfl rfl rfl rfl rfl rfl ?_ | refine DW_append_own tabOK rfl rfl rfl rfl rfl rfl rfl rfl rfl rfl rfl rfl rfl rfl rfl (by simp; omega) (by simp; omega) ?_) | (show W _ _ _ _ _ _; first | refine W_seq ?_ | refine W_text rfl (fun _ _ _ h => h) ?_ | refine W_block ?_ | refine W_skip ?_ | refine W_exit ?_ | refine W_ret ?_ | refine W_true rfl ?_ | refine W_false rfl ?_ | refine W_cond rfl (fun _ => ?_) (fun _ => ?_) | refine W_draw mixed [0, 1, 2, 3, 4, 5, 6, 7, 8, 9, 10, 11, 12] [.R, .R, .R, .R, .P, .R, .R, .R, .R, .P, .P, .P, .P] rfl rfl (by kernel_rfl) ?_))
  refine DW_pure rfl rfl rfl rfl rfl (compareI_ok b.time a.time) ?_
  repeat' (first | (show DW _ _ _ _ _ _ _ _; first | refine DW_A tabs rfl ?_ | refine DW_nil ?_ | refine DW_lits tabOK rfl rfl rfl rfl rfl rfl rfl rfl rfl rfl rfl rfl rfl ?_ | refine DW_append_own tabOK rfl rfl rfl rfl rfl rfl rfl rfl rfl rfl rfl rfl rfl rfl rfl (by simp; omega) (by simp; omega) ?_) | (show W _ _ _ _ _ _; first | refine W_seq ?_ | refine W_text rfl (fun _ _ _ h => h) ?_ | refine W_block ?_ | refine W_skip ?_ | refine W_exit ?_ | refine W_ret ?_ | refine W_true rfl ?_ | refine W_false rfl ?_ | refine W_cond rfl (fun _ => ?_) (fun _ => ?_) | refine W_draw mixed [0, 1, 2, 3, 4, 5, 6, 7, 8, 9, 10, 11, 12] [.R, .R, .R, .R, .P, .R, .R, .R, .R, .P, .P, .P, .P] rfl rfl (by kernel_rfl) ?_))
  refine DW_pure rfl rfl rfl rfl rfl (first_ok (cmpS a.path b.path) (cmpI b.time a.time) _) ?_
  repeat' (first | (show DW _ _ _ _ _ _ _ _; first | refine DW_A tabs rfl ?_ | refine DW_nil ?_ | refine DW_lits tabOK rfl rfl rfl rfl rfl rfl rfl rfl rfl rfl rfl rfl rfl ?_ | refine DW_append_own tabOK rfl rfl rfl rfl rfl rfl rfl rfl rfl rfl rfl rfl rfl rfl rfl (by simp; omega) (by simp; omega) ?_) | (show W _ _ _ _ _ _; first | refine W_seq ?_ | refine W_text rfl (fun _ _ _ h => h) ?_ | refine W_block ?_ | refine W_skip ?_ | refine W_exit ?_ | refine W_ret ?_ | refine W_true rfl ?_ | refine W_false rfl ?_ | refine W_cond rfl (fun _ => ?_) (fun _ => ?_) | refine W_draw mixed [0, 1, 2, 3, 4, 5, 6, 7, 8, 9, 10, 11, 12] [.R, .R, .R, .R, .P, .R, .R, .R, .R, .P, .P, .P, .P] rfl rfl (by kernel_rfl) ?_))
  exact ⟨rfl, _, rfl, rfl, rfl⟩

theorem compare_ok (a b : Ky) : APure Tryd.prog 20 [a.av, b.av] (.int .i64 (toS a b)) := by
  intro M
  refine acalls_of tabOK Tryd.func20 rfl (by decide) (by simp [Tryd.f20]) ?_
  repeat' (first | (show DW _ _ _ _ _ _ _ _; first | refine DW_A tabs rfl ?_ | refine DW_nil ?_ | refine DW_lits tabOK rfl rfl rfl rfl rfl rfl rfl rfl rfl rfl rfl rfl rfl ?_ | refine DW_append_own tabOK rfl rfl rfl rfl rfl rfl rfl rfl rfl rfl rfl rfl rfl rfl rfl (by simp; omega) (by simp; omega) ?_) | (show W _ _ _ _ _ _; first | refine W_seq ?_ | refine W_text rfl (fun _ _ _ h => h) ?_ | refine W_block ?_ | refine W_skip ?_ | refine W_exit ?_ | refine W_ret ?_ | refine W_true rfl ?_ | refine W_false rfl ?_ | refine W_cond rfl (fun _ => ?_) (fun _ => ?_)))
  refine DW_pure rfl rfl rfl rfl rfl (to_ok a b) ?_
  repeat' (first | (show DW _ _ _ _ _ _ _ _; first | refine DW_A tabs rfl ?_ | refine DW_nil ?_ | refine DW_lits tabOK rfl rfl rfl rfl rfl rfl rfl rfl rfl rfl rfl rfl rfl ?_ | refine DW_append_own tabOK rfl rfl rfl rfl rfl rfl rfl rfl rfl rfl rfl rfl rfl rfl rfl (by simp; omega) (by simp; omega) ?_) | (show W _ _ _ _ _ _; first | refine W_seq ?_ | refine W_text rfl (fun _ _ _ h => h) ?_ | refine W_block ?_ | refine W_skip ?_ | refine W_exit ?_ | refine W_ret ?_ | refine W_true rfl ?_ | refine W_false rfl ?_ | refine W_cond rfl (fun _ => ?_) (fun _ => ?_)))
  exact ⟨rfl, _, rfl, rfl, rfl⟩

theorem less_ok (a b : Ky) : APure Tryd.prog 19 [a.av, b.av] (.bool (decide (toS a b < 0))) := by
  intro M
  refine acalls_of tabOK Tryd.func19 rfl (by decide) (by simp [Tryd.f19]) ?_
  repeat' (first | (show DW _ _ _ _ _ _ _ _; first | refine DW_A tabs rfl ?_ | refine DW_nil ?_ | refine DW_lits tabOK rfl rfl rfl rfl rfl rfl rfl rfl rfl rfl rfl rfl rfl ?_ | refine DW_append_own tabOK rfl rfl rfl rfl rfl rfl rfl rfl rfl rfl rfl rfl rfl rfl rfl (by simp; omega) (by simp; omega) ?_) | (show W _ _ _ _ _ _; first | refine W_seq ?_ | refine W_text rfl (fun _ _ _ h => h) ?_ | refine W_block ?_ | refine W_skip ?_ | refine W_exit ?_ | refine W_ret ?_ | refine W_true rfl ?_ | refine W_false rfl ?_ | refine W_cond rfl (fun _ => ?_) (fun _ => ?_)))
  refine DW_pure rfl rfl rfl rfl rfl (compare_ok a b) ?_
  repeat' (first | (show DW _ _ _ _ _ _ _ _; first | refine DW_A tabs rfl ?_ | refine DW_nil ?_ | refine DW_lits tabOK rfl rfl rfl rfl rfl rfl rfl rfl rfl rfl rfl rfl rfl ?_ | refine DW_append_own tabOK rfl rfl rfl rfl rfl rfl rfl rfl rfl rfl rfl rfl rfl rfl rfl (by simp; omega) (by simp; omega) ?_) | (show W _ _ _ _ _ _; first | refine W_seq ?_ | refine W_text rfl (fun _ _ _ h => h) ?_ | refine W_block ?_ | refine W_skip ?_ | refine W_exit ?_ | refine W_ret ?_ | refine W_true rfl ?_ | refine W_false rfl ?_ | refine W_cond rfl (fun _ => ?_) (fun _ => ?_)))
  exact ⟨rfl, _, rfl, rfl, rfl⟩
end Go.Proofs.YteimhnedflbkmaaDoor
