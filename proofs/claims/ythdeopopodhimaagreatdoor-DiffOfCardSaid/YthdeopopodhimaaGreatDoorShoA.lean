/- What a store tells has few chunks; lists of stores that tell the same are the same. No further condition. -/
import Derived.Test.YthdeopopodhimaaGreatDoorV24
import Derived.Test.YthdeopopodhimaaGreatDoorV23
set_option linter.unusedVariables false
set_option linter.unusedSimpArgs false
namespace Go.Proofs.YthdeopopodhimaaGreatDoor
open Go.Ab

theorem getM_ch (s : Bytes) : (getM s).1.ch.length ≤ 16 := by
  unfold getM
  cases nums s with
  | none => exact Nat.zero_le _
  | some l =>
    match l with
    | [] => exact Nat.zero_le _
    | [_] => exact Nat.zero_le _
    | [_, _] => exact Nat.zero_le _
    | a :: b :: c :: m =>
      show (mtOf a b c m).1.ch.length ≤ 16
      unfold mtOf
      split
      · rename_i h
        have h2 := h.2
        unfold isM at h2
        simp at h2
        simp
        exact h2.2.2
      · exact Nat.zero_le _
theorem readM_ch (v : Bytes) : (readM v).1.ch.length ≤ 16 := by
  cases v with
  | nil => exact Nat.zero_le _
  | cons c r =>
    show (if c = 0 ∧ r = [] then (zeroMt, true, (0 : Int)) else if c = 1 then ((getM r).1, false, (getM r).2) else (zeroMt, false, 30)).1.ch.length ≤ 16
    split
    · exact Nat.zero_le _
    · split
      · exact getM_ch r
      · exact Nat.zero_le _
theorem pathsU_len : ∀ (n : Nat) (dir : Bytes) (m : List Pr), m.length ≤ n → (pathsU dir m).length ≤ m.length
  | n, dir, m, hn => by
    have hlen := (skipU_sub dir m).length_le
    cases hs : skipU dir m with
    | nil => rw [pathsU_nil hs]; exact Nat.zero_le _
    | cons x r =>
      rw [hs] at hlen
      have hlt := sameP_lt x r
      rw [pathsU_cons hs]
      match n, hn with
      | 0, hn => simp at hlen; omega
      | n + 1, hn =>
        simp at hlen
        have := pathsU_len n dir (sameP x.key.path (x :: r)) (by omega)
        simp
        omega
theorem list_len (l : List Pr) (dir : Bytes) (w : Int) : (listL l dir w).length ≤ l.length :=
  Nat.le_trans (List.length_filterMap_le _ _) (pathsU_len _ dir l (Nat.le_refl _))
theorem list_short {l : List Pr} (hr : Rise l) (ht : okT l) {dir : Bytes} {w : Int} : ∀ e, e ∈ listL l dir w → shortE e := fun e he => by
  obtain ⟨_, _, x, _, _, _, hm⟩ := at_is hr ht ((list_mem hr ht dir w e).1 he).2
  unfold shortE
  rw [hm]
  have := readM_ch x.val
  omega
theorem listO_short {l : List Pr} (hr : Rise l) (h : isSt l = true) (dir : Bytes) (w : Int) : (listO l dir w).1.length ≤ l.length ∧ ∀ e, e ∈ (listO l dir w).1 → shortE e := by
  unfold listO
  split
  · exact ⟨list_len l dir w, list_short hr (isSt_okT h)⟩
  · exact ⟨Nat.zero_le _, fun e he => by cases he⟩
theorem listO_congr {l m : List Pr} (hr : Rise l) (h : isSt l = true) (hr' : Rise m) (h' : isSt m = true) {w : Int} (hh : ∀ p, atL l p w = atL m p w) (dir : Bytes) : listO l dir w = listO m dir w := by
  unfold listO
  rw [openE_st h, openE_st h', list_congr hr (isSt_okT h) hr' (isSt_okT h') hh]

end Go.Proofs.YthdeopopodhimaaGreatDoor
