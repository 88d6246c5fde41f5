/- Plain facts on keys and their bytes: what is put is got, what is got is put; keys rise as their bytes do. No further condition. -/
import Derived.Test.YtmgkebghojhocaaGreatDoorQKeyD
import Derived.Test.YtmgkebghojhocaaGreatDoorQV16
set_option linter.unusedVariables false
set_option linter.unusedSimpArgs false
namespace Go.Proofs.YtmgkebghojhocaaGreatDoor
open Go.Ab
theorem kbyteAt_nat (n j : Nat) : (byteAt n j).toNat = n / 256 ^ j % 256 := by
 simp [byteAt]
theorem kbe4_num (l : Bytes) (h : l.length = 4) : be4 (num l) = l := by
 match l, h with
 | [a, b, c, d], _ =>
  have ha := a.toNat_lt
  have hb := b.toNat_lt
  have hc := c.toNat_lt
  have hd := d.toNat_lt
  have e : num [a, b, c, d] = ((a.toNat * 256 + b.toNat) * 256 + c.toNat) * 256 + d.toNat := by simp [num]
  rw [e]
  have key : ∀ (x : UInt8) (j : Nat), (((a.toNat * 256 + b.toNat) * 256 + c.toNat) * 256 + d.toNat) / 256 ^ j % 256 = x.toNat → byteAt (((a.toNat * 256 + b.toNat) * 256 + c.toNat) * 256 + d.toNat) j = x := by
   intro x j h
   apply UInt8.toNat_inj.1
   rw [kbyteAt_nat, h]
  rw [be4, key a 3 (by simp only [Nat.reducePow]; omega), key b 2 (by simp only [Nat.reducePow]; omega), key c 1 (by simp only [Nat.reducePow]; omega), key d 0 (by simp only [Nat.reducePow]; omega)]
theorem knum_be4 (n : Nat) (h : n < 4294967296) : num (be4 n) = n := by
 have e : num (be4 n) = (((byteAt n 3).toNat * 256 + (byteAt n 2).toNat) * 256 + (byteAt n 1).toNat) * 256 + (byteAt n 0).toNat := by simp [num, be4]
 rw [e, kbyteAt_nat, kbyteAt_nat, kbyteAt_nat, kbyteAt_nat]
 omega
theorem get_put {k : Ky} (h : isKeyB k = true) : getB (k.path ++ 0 :: be4 (4294967295 - k.time).toNat) = (k, 0) := by
 obtain ⟨_, h1, h2⟩ := key_parts h
 have hl : (k.path ++ 0 :: be4 (4294967295 - k.time).toNat).length = k.path.length + 5 := by simp [be4]
 have e1 : (k.path ++ 0 :: be4 (4294967295 - k.time).toNat)[k.path.length]? = some 0 := by simp
 have e2 : (k.path ++ 0 :: be4 (4294967295 - k.time).toNat).take k.path.length = k.path := by simp
 have e3 : (k.path ++ 0 :: be4 (4294967295 - k.time).toNat).drop (k.path.length + 1) = be4 (4294967295 - k.time).toNat := by
  rw [List.drop_append]
  simp
 have e4 : (4294967295 : Int) - ((num (be4 (4294967295 - k.time).toNat) : Nat) : Int) = k.time := by
  rw [knum_be4 _ (by omega)]
  omega
 unfold getB
 rw [hl, show k.path.length + 5 - 5 = k.path.length by omega, show k.path.length + 5 - 4 = k.path.length + 1 by omega, e1, e2, e3, e4]
 rw [if_neg (by simp), if_pos h]
theorem putB_ok {k : Ky} (h : isKeyB k = true) : putB k = (k.path ++ 0 :: be4 (4294967295 - k.time).toNat, 0) := by rw [putB, if_pos h]
theorem putB_no {k : Ky} (h : isKeyB k = false) : putB k = ([], 1) := by rw [putB, if_neg (by simp [h])]
theorem put_of {s : Bytes} (hl : 5 ≤ s.length) (hz : s[s.length - 5]? = some 0) (hk : isKeyB ⟨s.take (s.length - 5), 4294967295 - (num (s.drop (s.length - 4)) : Int)⟩ = true) :
  putB ⟨s.take (s.length - 5), 4294967295 - (num (s.drop (s.length - 4)) : Int)⟩ = (s, 0) := by
 rw [putB_ok hk]
 have hd : (s.drop (s.length - 4)).length = 4 := by simp; omega
 have hn := num_lt 4 (s.drop (s.length - 4)) (by omega)
 have e : ((4294967295 : Int) - (4294967295 - ((num (s.drop (s.length - 4)) : Nat) : Int))).toNat = num (s.drop (s.length - 4)) := by omega
 simp only [e]
 rw [kbe4_num _ hd]
 have h1 : s.drop (s.length - 5) = 0 :: s.drop (s.length - 4) := by
  have hlt : s.length - 5 < s.length := by omega
  rw [List.drop_eq_getElem_cons hlt, show s.length - 5 + 1 = s.length - 4 by omega]
  rw [(List.getElem?_eq_some_iff.1 hz).2]
 rw [← h1, List.take_append_drop]
theorem getB_cases (s : Bytes) : getB s = (zeroK, 30) ∨ ∃ k, getB s = (k, 0) ∧ isKeyB k = true ∧ putB k = (s, 0) ∧ k.path.length ≤ s.length := by
 unfold getB
 by_cases h : s.length < 5 ∨ s[s.length - 5]? ≠ some 0
 ·rw [if_pos h]
  exact .inl rfl
 ·rw [if_neg h]
  simp only [not_or, Nat.not_lt, ne_eq, Decidable.not_not] at h
  obtain ⟨hl, hz⟩ := h
  have hp := put_of hl hz
  have hlen : (s.take (s.length - 5)).length ≤ s.length := by simp
  generalize (⟨s.take (s.length - 5), 4294967295 - (num (s.drop (s.length - 4)) : Int)⟩ : Ky) = K at hp
  cases hk : isKeyB K
  ·exact .inl (by simp)
  ·refine .inr ⟨K, if_pos rfl, hk, hp hk, ?_⟩
   have h1 := hp hk
   rw [putB_ok hk] at h1
   have := congrArg List.length (congrArg Prod.fst h1)
   simp at this
   omega
theorem rgetB_eq (s : Bytes) : rgetB s = getB s := by
 unfold rgetB getB
 by_cases h5 : s.length < 5
 ·rw [if_pos h5, if_pos (.inl h5)]
 ·rw [if_neg h5]
  by_cases hz : s[s.length - 5]? = some 0
  ·rw [if_neg (show ¬ (s.length < 5 ∨ s[s.length - 5]? ≠ some 0) from fun h => h.elim h5 (fun h => h hz))]
   have hp := put_of (by omega) hz
   generalize (⟨s.take (s.length - 5), 4294967295 - (num (s.drop (s.length - 4)) : Int)⟩ : Ky) = K at hp
   cases hk : isKeyB K
   ·rw [putB_no hk]
    simp
   ·rw [hp hk]
    simp
  ·rw [if_pos (show s.length < 5 ∨ s[s.length - 5]? ≠ some 0 from .inr hz)]
   have hl : (s.take (s.length - 5)).length = s.length - 5 := by simp
   cases hk : isKeyB ⟨s.take (s.length - 5), 4294967295 - (num (s.drop (s.length - 4)) : Int)⟩
   ·rw [putB_no hk]
    simp
   ·rw [if_pos]
    refine .inr ?_
    rw [putB_ok hk]
    intro e
    apply hz
    simp only at e
    generalize be4 ((4294967295 : Int) - (4294967295 - ((num (s.drop (s.length - 4)) : Nat) : Int))).toNat = q at e
    have : (s.take (s.length - 5) ++ 0 :: q)[s.length - 5]? = some 0 := by
     rw [List.getElem?_append_right (by omega), hl]
     simp
    rw [e] at this
    exact this
end Go.Proofs.YtmgkebghojhocaaGreatDoor
