/- Plain facts on keys and their bytes: what is put is got, what is got is put; keys rise as their bytes do. No further condition. -/
import Derived.Test.YteimhnedflbkmaaDoorKeyE
set_option linter.unusedVariables false
set_option linter.unusedSimpArgs false
namespace Go.Proofs.YteimhnedflbkmaaDoor
open Go.Ab

/-! ### Texts as bytes, in their order -/
abbrev bl (a b : Bytes) : Bool := Op.bytesLess a b

theorem bl_irrefl : ∀ a : Bytes, bl a a = false
  | [] => rfl
  | b :: l => by
    have := bl_irrefl l
    simp only [bl, Op.bytesLess] at this ⊢
    rw [this]
    simp
theorem bl_trans : ∀ {a b c : Bytes}, bl a b = true → bl b c = true → bl a c = true
  | _, _, [], _, h => by simp [bl, Op.bytesLess] at h
  | _, [], _ :: _, h, _ => by simp [bl, Op.bytesLess] at h
  | [], _ :: _, _ :: _, _, _ => rfl
  | x :: a, y :: b, z :: c, h1, h2 => by
    simp only [bl, Op.bytesLess, Bool.or_eq_true, Bool.and_eq_true, decide_eq_true_eq, beq_iff_eq, UInt8.lt_iff_toNat_lt] at h1 h2 ⊢
    rcases h1 with h1 | ⟨rfl, h1⟩
    · rcases h2 with h2 | ⟨rfl, h2⟩
      · exact .inl (by omega)
      · exact .inl h1
    · rcases h2 with h2 | ⟨rfl, h2⟩
      · exact .inl h2
      · exact .inr ⟨rfl, bl_trans (a := a) (b := b) (c := c) h1 h2⟩
theorem bl_total : ∀ {a b : Bytes}, a ≠ b → bl a b = true ∨ bl b a = true
  | [], [], h => absurd rfl h
  | [], _ :: _, _ => .inl rfl
  | _ :: _, [], _ => .inr rfl
  | x :: a, y :: b, h => by
    simp only [bl, Op.bytesLess, Bool.or_eq_true, Bool.and_eq_true, decide_eq_true_eq, beq_iff_eq, UInt8.lt_iff_toNat_lt]
    by_cases e : x = y
    · subst e
      rcases bl_total (a := a) (b := b) (fun e => h (by rw [e])) with h1 | h1
      · exact .inl (.inr ⟨rfl, h1⟩)
      · exact .inr (.inr ⟨rfl, h1⟩)
    · have : x.toNat ≠ y.toNat := fun he => e (UInt8.toNat_inj.1 he)
      rcases Nat.lt_or_gt_of_ne this with h1 | h1
      · exact .inl (.inl h1)
      · exact .inr (.inl h1)
theorem bl_asymm {a b : Bytes} (h : bl a b = true) : bl b a = false := by
  cases hb : bl b a
  · rfl
  · have := bl_trans h hb
    rw [bl_irrefl] at this
    cases this
theorem bl_prefix (x : UInt8) (r : Bytes) : ∀ d : Bytes, bl d (d ++ x :: r) = true
  | [] => rfl
  | b :: l => by
    have := bl_prefix x r l
    simp only [bl, Op.bytesLess, List.cons_append] at this ⊢
    rw [this]
    simp
theorem bl_zero (x y : Bytes) : ∀ p q : Bytes, (∀ b, b ∈ p → b ≠ 0) → (∀ b, b ∈ q → b ≠ 0) → bl (p ++ 0 :: x) (q ++ 0 :: y) = (bl p q || (p == q && bl x y))
  | [], [], _, _ => by simp [bl, Op.bytesLess]
  | [], b :: q, _, hq => by
    have hb : (0 : UInt8) < b := by
      have := hq b (by simp)
      rw [UInt8.lt_iff_toNat_lt]
      have h0 : b.toNat ≠ 0 := fun e => this (UInt8.toNat_inj.1 e)
      have : (0 : UInt8).toNat = 0 := rfl
      omega
    simp [bl, Op.bytesLess, hb]
  | a :: p, [], hp, _ => by
    have ha := hp a (by simp)
    have h0 : ¬ a < 0 := by
      rw [UInt8.lt_iff_toNat_lt]
      have : (0 : UInt8).toNat = 0 := rfl
      omega
    simp [bl, Op.bytesLess, ha, h0]
  | a :: p, b :: q, hp, hq => by
    have ih := bl_zero x y p q (fun c hc => hp c (by simp [hc])) (fun c hc => hq c (by simp [hc]))
    simp only [bl, Op.bytesLess, List.cons_append] at ih ⊢
    rw [ih]
    have e : ((a :: p) == (b :: q)) = ((a == b) && (p == q)) := rfl
    rw [e]
    cases decide (a < b) <;> cases (a == b) <;> cases Op.bytesLess p q <;> simp

/-! ### Four bytes -/
theorem byteAt_nat (n j : Nat) : (byteAt n j).toNat = n / 256 ^ j % 256 := by
  simp [byteAt]
theorem be4_num (l : Bytes) (h : l.length = 4) : be4 (num l) = l := by
  match l, h with
  | [a, b, c, d], _ =>
    have ha := a.toNat_lt
    have hb := b.toNat_lt
    have hc := c.toNat_lt
    have hd := d.toNat_lt
    have e : num [a, b, c, d] = ((a.toNat * 256 + b.toNat) * 256 + c.toNat) * 256 + d.toNat := by simp [num]
    rw [e]
    have key : ∀ (x : UInt8) (j : Nat), (((a.toNat * 256 + b.toNat) * 256 + c.toNat) * 256 + d.toNat) / 256 ^ j % 256 = x.toNat → byteAt (((a.toNat * 256 + b.toNat) * 256 + c.toNat) * 256 + d.toNat) j = x := by
      intro x j h
      apply UInt8.toNat_inj.1
      rw [byteAt_nat, h]
    rw [be4, key a 3 (by simp only [Nat.reducePow]; omega), key b 2 (by simp only [Nat.reducePow]; omega), key c 1 (by simp only [Nat.reducePow]; omega), key d 0 (by simp only [Nat.reducePow]; omega)]
theorem num_be4 (n : Nat) (h : n < 4294967296) : num (be4 n) = n := by
  have e : num (be4 n) = (((byteAt n 3).toNat * 256 + (byteAt n 2).toNat) * 256 + (byteAt n 1).toNat) * 256 + (byteAt n 0).toNat := by simp [num, be4]
  rw [e, byteAt_nat, byteAt_nat, byteAt_nat, byteAt_nat]
  omega
theorem be4_len (n : Nat) : (be4 n).length = 4 := rfl
theorem lex4 {a b c d x y z u : Nat} (hb : b < 256) (hc : c < 256) (hd : d < 256) (hy : y < 256) (hz : z < 256) (hu : u < 256) :
    (a < x ∨ a = x ∧ (b < y ∨ b = y ∧ (c < z ∨ c = z ∧ d < u))) ↔ ((a * 256 + b) * 256 + c) * 256 + d < ((x * 256 + y) * 256 + z) * 256 + u := by
  omega
theorem digits (n : Nat) (h : n < 4294967296) : n = ((n / 256 ^ 3 % 256 * 256 + n / 256 ^ 2 % 256) * 256 + n / 256 ^ 1 % 256) * 256 + n / 256 ^ 0 % 256 := by
  simp only [Nat.reducePow]
  omega
theorem bl_be4 (n m : Nat) (hn : n < 4294967296) (hm : m < 4294967296) : bl (be4 n) (be4 m) = decide (n < m) := by
  have e : ∀ j, (byteAt n j == byteAt m j) = decide (n / 256 ^ j % 256 = m / 256 ^ j % 256) := by
    intro j
    rw [← byteAt_nat n j, ← byteAt_nat m j]
    rw [Bool.eq_iff_iff, beq_iff_eq, decide_eq_true_eq]
    exact ⟨fun h => by rw [h], fun h => UInt8.toNat_inj.1 h⟩
  have l : ∀ j, decide (byteAt n j < byteAt m j) = decide (n / 256 ^ j % 256 < m / 256 ^ j % 256) := by
    intro j
    rw [← byteAt_nat n j, ← byteAt_nat m j]
    exact decide_eq_decide.2 UInt8.lt_iff_toNat_lt
  simp only [bl, be4, Op.bytesLess, e, l]
  rw [Bool.eq_iff_iff]
  simp only [Bool.or_eq_true, Bool.and_eq_true, decide_eq_true_eq, Bool.false_eq_true, and_false, or_false]
  have dn := digits n hn
  have dm := digits m hm
  have q : ∀ k : Nat, k % 256 < 256 := fun k => Nat.mod_lt _ (by omega)
  rw [lex4 (q _) (q _) (q _) (q _) (q _) (q _), ← dn, ← dm]

/-! ### Paths bear no byte 0 -/
theorem nozero_split (c : UInt8) : ∀ s : Bytes, c ≠ 0 → (∀ p, p ∈ splitOn c s → ∀ b, b ∈ p → b ≠ 0) → ∀ b, b ∈ s → b ≠ 0
  | [], _, _, b, hb => by simp at hb
  | x :: l, hc, h, b, hb => by
    unfold splitOn at h
    split at h
    · rename_i e
      rcases List.mem_cons.1 hb with rfl | hb
      · rw [e]; exact hc
      · exact nozero_split c l hc (fun p hp => h p (by simp [hp])) b hb
    · split at h
      · rename_i hs
        exact absurd hs (splitOn_ne c l)
      · rename_i p r hs
        rcases List.mem_cons.1 hb with rfl | hb
        · exact h (b :: p) (by simp) b (by simp)
        · refine nozero_split c l hc (fun q hq => ?_) b hb
          rw [hs] at hq
          rcases List.mem_cons.1 hq with rfl | hq
          · exact fun y hy => h (x :: q) (by simp) y (by simp [hy])
          · exact h q (by simp [hq])
theorem isNameB_zero {s : Bytes} (h : isNameB s = true) : ∀ b, b ∈ s → b ≠ 0 := by
  intro b hb e
  subst e
  unfold isNameB at h
  have : (s.any fun b => b == 47 || b == 0) = true := List.any_eq_true.2 ⟨0, hb, rfl⟩
  rw [this] at h
  simp at h
theorem isPathB_zero {s : Bytes} (h : isPathB s = true) : ∀ b, b ∈ s → b ≠ 0 := by
  unfold isPathB at h
  cases hs : s == []
  · rw [hs] at h
    simp only [Bool.false_or, Bool.and_eq_true, List.all_eq_true] at h
    exact nozero_split 47 s (by decide) (fun p hp => isNameB_zero (h.1 p hp))
  · simp at hs
    subst hs
    simp

/-! ### What is put is got, what is got is put -/
theorem get_put {k : Ky} (h : isKeyB k = true) : getB (k.path ++ 0 :: be4 (4294967295 - k.time).toNat) = (k, 0) := by
  obtain ⟨_, h1, h2⟩ := key_parts h
  have hl : (k.path ++ 0 :: be4 (4294967295 - k.time).toNat).length = k.path.length + 5 := by simp [be4]
  have e1 : (k.path ++ 0 :: be4 (4294967295 - k.time).toNat)[k.path.length]? = some 0 := by simp
  have e2 : (k.path ++ 0 :: be4 (4294967295 - k.time).toNat).take k.path.length = k.path := by simp
  have e3 : (k.path ++ 0 :: be4 (4294967295 - k.time).toNat).drop (k.path.length + 1) = be4 (4294967295 - k.time).toNat := by
    rw [List.drop_append]
    simp
  have e4 : (4294967295 : Int) - ((num (be4 (4294967295 - k.time).toNat) : Nat) : Int) = k.time := by
    rw [num_be4 _ (by omega)]
    omega
  unfold getB
  rw [hl, show k.path.length + 5 - 5 = k.path.length by omega, show k.path.length + 5 - 4 = k.path.length + 1 by omega, e1, e2, e3, e4]
  rw [if_neg (by simp), if_pos h]
theorem putB_ok {k : Ky} (h : isKeyB k = true) : putB k = (k.path ++ 0 :: be4 (4294967295 - k.time).toNat, 0) := by rw [putB, if_pos h]
theorem putB_no {k : Ky} (h : isKeyB k = false) : putB k = ([], 1) := by rw [putB, if_neg (by simp [h])]

theorem put_of {s : Bytes} (hl : 5 ≤ s.length) (hz : s[s.length - 5]? = some 0) (hk : isKeyB ⟨s.take (s.length - 5), 4294967295 - (num (s.drop (s.length - 4)) : Int)⟩ = true) :
    putB ⟨s.take (s.length - 5), 4294967295 - (num (s.drop (s.length - 4)) : Int)⟩ = (s, 0) := by
  rw [putB_ok hk]
  have hd : (s.drop (s.length - 4)).length = 4 := by simp; omega
  have hn := num_lt 4 (s.drop (s.length - 4)) (by omega)
  have e : ((4294967295 : Int) - (4294967295 - ((num (s.drop (s.length - 4)) : Nat) : Int))).toNat = num (s.drop (s.length - 4)) := by omega
  simp only [e]
  rw [be4_num _ hd]
  have h1 : s.drop (s.length - 5) = 0 :: s.drop (s.length - 4) := by
    have hlt : s.length - 5 < s.length := by omega
    rw [List.drop_eq_getElem_cons hlt, show s.length - 5 + 1 = s.length - 4 by omega]
    rw [(List.getElem?_eq_some_iff.1 hz).2]
  rw [← h1, List.take_append_drop]

theorem getB_cases (s : Bytes) : getB s = (zeroK, 30) ∨ ∃ k, getB s = (k, 0) ∧ isKeyB k = true ∧ putB k = (s, 0) ∧ k.path.length ≤ s.length := by
  unfold getB
  by_cases h : s.length < 5 ∨ s[s.length - 5]? ≠ some 0
  · rw [if_pos h]
    exact .inl rfl
  · rw [if_neg h]
    simp only [not_or, Nat.not_lt, ne_eq, Decidable.not_not] at h
    obtain ⟨hl, hz⟩ := h
    have hp := put_of hl hz
    have hlen : (s.take (s.length - 5)).length ≤ s.length := by simp
    generalize (⟨s.take (s.length - 5), 4294967295 - (num (s.drop (s.length - 4)) : Int)⟩ : Ky) = K at hp
    cases hk : isKeyB K
    · exact .inl (by simp)
    · refine .inr ⟨K, if_pos rfl, hk, hp hk, ?_⟩
      have h1 := hp hk
      rw [putB_ok hk] at h1
      have := congrArg List.length (congrArg Prod.fst h1)
      simp at this
      omega

theorem rgetB_eq (s : Bytes) : rgetB s = getB s := by
  unfold rgetB getB
  by_cases h5 : s.length < 5
  · rw [if_pos h5, if_pos (.inl h5)]
  · rw [if_neg h5]
    by_cases hz : s[s.length - 5]? = some 0
    · rw [if_neg (show ¬ (s.length < 5 ∨ s[s.length - 5]? ≠ some 0) from fun h => h.elim h5 (fun h => h hz))]
      have hp := put_of (by omega) hz
      generalize (⟨s.take (s.length - 5), 4294967295 - (num (s.drop (s.length - 4)) : Int)⟩ : Ky) = K at hp
      cases hk : isKeyB K
      · rw [putB_no hk]
        simp
      · rw [hp hk]
        simp
    · rw [if_pos (show s.length < 5 ∨ s[s.length - 5]? ≠ some 0 from .inr hz)]
      have hl : (s.take (s.length - 5)).length = s.length - 5 := by simp
      cases hk : isKeyB ⟨s.take (s.length - 5), 4294967295 - (num (s.drop (s.length - 4)) : Int)⟩
      · rw [putB_no hk]
        simp
      · rw [if_pos]
        refine .inr ?_
        rw [putB_ok hk]
        intro e
        apply hz
        simp only at e
        generalize be4 ((4294967295 : Int) - (4294967295 - ((num (s.drop (s.length - 4)) : Nat) : Int))).toNat = q at e
        have : (s.take (s.length - 5) ++ 0 :: q)[s.length - 5]? = some 0 := by
          rw [List.getElem?_append_right (by omega), hl]
          simp
        rw [e] at this
        exact this

/-! ### Keys in their order -/
theorem cmpS_neg (a b : Bytes) : cmpS a b = if bl a b = true then -1 else if a = b then 0 else 1 := by
  unfold cmpS
  simp only [beq_iff_eq]
theorem toS_rcmp (a b : Ky) : toS a b = rcmp a b := by
  unfold toS rcmp rless first2
  rw [cmpS_neg]
  unfold cmpI
  by_cases h1 : bl a.path b.path = true
  · have : Op.bytesLess a.path b.path = true := h1
    simp [this]
  · have h1' : Op.bytesLess a.path b.path = false := by simpa using h1
    by_cases h2 : a.path = b.path
    · have h3 : Op.bytesLess b.path a.path = false := by rw [h2]; exact bl_irrefl _
      have h4 : Op.bytesLess b.path b.path = false := bl_irrefl _
      by_cases h5 : b.time < a.time
      · simp [h2, h4, h5]
      · by_cases h6 : a.time < b.time
        · simp [h2, h4, h5, h6]
        · simp [h2, h4, h5, h6]
    · have h3 : Op.bytesLess b.path a.path = true := by
        rcases bl_total h2 with h | h
        · exact absurd h h1
        · exact h
      simp [h1', h2, h3, Ne.symm h2]
theorem rless_asymm {a b : Ky} (h : rless a b = true) : rless b a = false := by
  unfold rless at h ⊢
  simp only [Bool.or_eq_true, Bool.and_eq_true, beq_iff_eq, decide_eq_true_eq] at h
  rcases h with h | ⟨h1, h2⟩
  · have h3 := bl_asymm h
    have h4 : ¬ b.path = a.path := fun e => by
      rw [e] at h
      have := bl_irrefl a.path
      simp only [bl] at this
      rw [this] at h
      cases h
    simp only [bl] at h3
    simp [h3, h4]
  · have h3 := bl_irrefl b.path
    simp only [bl] at h3
    rw [h1, h3]
    simp
    omega
theorem toS_neg (a b : Ky) : decide (toS a b < 0) = rless a b := by
  rw [toS_rcmp]
  unfold rcmp
  cases h : rless a b
  · simp
    split <;> omega
  · simp
theorem rless_trans {a b c : Ky} (h1 : rless a b = true) (h2 : rless b c = true) : rless a c = true := by
  unfold rless at h1 h2 ⊢
  simp only [Bool.or_eq_true, Bool.and_eq_true, beq_iff_eq, decide_eq_true_eq] at h1 h2 ⊢
  rcases h1 with h1 | ⟨h1, h1'⟩
  · rcases h2 with h2 | ⟨h2, h2'⟩
    · exact .inl (bl_trans h1 h2)
    · rw [h2] at h1
      exact .inl h1
  · rcases h2 with h2 | ⟨h2, h2'⟩
    · rw [h1]
      exact .inl h2
    · exact .inr ⟨h1.trans h2, by omega⟩
theorem rless_total {a b : Ky} (h : a ≠ b) : rless a b = true ∨ rless b a = true := by
  unfold rless
  simp only [Bool.or_eq_true, Bool.and_eq_true, beq_iff_eq, decide_eq_true_eq]
  by_cases hp : a.path = b.path
  · have ht : a.time ≠ b.time := fun e => h (by cases a; cases b; simp_all)
    rcases Int.lt_or_gt_of_ne ht with h1 | h1
    · exact .inr (.inr ⟨hp.symm, h1⟩)
    · exact .inl (.inr ⟨hp, h1⟩)
  · rcases bl_total hp with h1 | h1
    · exact .inl (.inl h1)
    · exact .inr (.inl h1)
theorem put_less {a b : Ky} (ha : isKeyB a = true) (hb : isKeyB b = true) : bl (putB a).1 (putB b).1 = rless a b := by
  obtain ⟨a1, a2, a3⟩ := key_parts ha
  obtain ⟨b1, b2, b3⟩ := key_parts hb
  rw [putB_ok ha, putB_ok hb]
  simp only
  rw [bl_zero _ _ _ _ (isPathB_zero a1) (isPathB_zero b1), bl_be4 _ _ (by omega) (by omega)]
  unfold rless
  have : decide ((4294967295 - a.time).toNat < (4294967295 - b.time).toNat) = decide (b.time < a.time) := decide_eq_decide.2 (by omega)
  rw [this]
theorem toS_zero (a b : Ky) : decide (toS a b = 0) = (a.path == b.path && decide (a.time = b.time)) := by
  rw [toS_rcmp]
  unfold rcmp
  by_cases h : a = b
  · subst h
    have : rless a a = false := by
      cases hh : rless a a
      · rfl
      · have := rless_asymm hh
        rw [hh] at this
        cases this
    rw [this]
    simp
  · have e : (a.path == b.path && decide (a.time = b.time)) = false := by
      cases hh : (a.path == b.path && decide (a.time = b.time))
      · rfl
      · simp at hh
        exact absurd (by cases a; cases b; simp_all) h
    rw [e]
    rcases rless_total h with h1 | h1
    · simp [h1]
    · have h2 := rless_asymm h1
      simp [h1, h2]
theorem toS_anti (a b : Ky) : toS a b + toS b a = 0 := by
  rw [toS_rcmp, toS_rcmp]
  unfold rcmp
  cases h1 : rless a b <;> cases h2 : rless b a <;> simp
  have := rless_asymm h1
  rw [h2] at this
  cases this
end Go.Proofs.YteimhnedflbkmaaDoor
