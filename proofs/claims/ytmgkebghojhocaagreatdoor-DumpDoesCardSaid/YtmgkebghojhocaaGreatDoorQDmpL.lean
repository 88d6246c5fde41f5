/- Without one of its texts, or with one twice, a row of texts is no state's. No further condition. -/
import Derived.Test.YtmgkebghojhocaaGreatDoorQDmpP
set_option linter.unusedVariables false
set_option linter.unusedSimpArgs false
namespace Go.Proofs.YtmgkebghojhocaaGreatDoor
open Go.Ab
theorem rowN_none {l : List Int} {k : Nat} (h : ∀ x, x ∈ l → 0 ≤ x ∧ x ≤ 4294967295) (hk : l.length ≠ k) : rowN (catN l) k = none := by
 unfold rowN
 rw [nums_cat l h]
 show (if _ then _ else _) = _
 rw [if_neg (by simpa using hk)]
theorem nb_small {n : Nat} (h : n < 256) : nb n = if n = 0 then [] else [UInt8.ofNat n] := by
 have e3 : byteAt n 3 = 0 := byteAt_zero (Nat.div_eq_of_lt (by omega))
 have e2 : byteAt n 2 = 0 := byteAt_zero (Nat.div_eq_of_lt (by omega))
 have e1 : byteAt n 1 = 0 := byteAt_zero (Nat.div_eq_of_lt (by omega))
 have e0 : byteAt n 0 = UInt8.ofNat n := by
  unfold byteAt
  rw [Nat.pow_zero, Nat.div_one, Nat.mod_eq_of_lt h]
 unfold nb nbI be4
 rw [e3, e2, e1, e0]
 by_cases hn : n = 0
 ·subst hn
  rfl
 ·rw [if_neg hn]
  have : (UInt8.ofNat n == 0) = false := by
   rw [beq_eq_false_iff_ne]
   intro e
   have := congrArg UInt8.toNat e
   rw [UInt8.toNat_ofNat'] at this
   have h0 : (0 : UInt8).toNat = 0 := rfl
   omega
  simp [List.dropWhile_cons, this]
theorem putN_small {n : Nat} (h : n < 256) : putN n = if n = 0 then [0] else [1, UInt8.ofNat n] := by
 unfold putN
 rw [nb_small h]
 by_cases hn : n = 0
 ·rw [if_pos hn, if_pos hn]
  rfl
 ·rw [if_neg hn, if_neg hn]
  rfl
/-- In small numbers each greater byte stands behind a one. -/
theorem behind_one : ∀ {l : List Int}, (∀ x, x ∈ l → 0 ≤ x ∧ x < 256) → ∀ (pre post : Bytes) (c : UInt8), catN l = pre ++ c :: post → 4 < c.toNat → ∃ q, pre = q ++ [1]
 | [], _, pre, post, c, h, _ => by
  have : ([] : Bytes) = pre ++ c :: post := h
  cases pre <;> cases this
 | x :: r, hl, pre, post, c, h, hc => by
  have hx := hl x (by simp)
  have ih := fun pre post c h hc => behind_one (l := r) (fun y hy => hl y (by simp [hy])) pre post c h hc
  have e : catN (x :: r) = putN x.toNat ++ catN r := by simp [catN]
  rw [e, putN_small (by omega)] at h
  by_cases h0 : x.toNat = 0
  ·rw [if_pos h0] at h
   cases pre with
   | nil =>
    injection h with h1 h2
    rw [← h1] at hc
    exact absurd hc (by decide)
   | cons a p =>
    injection h with h1 h2
    obtain ⟨q, rfl⟩ := ih p post c h2 hc
    exact ⟨a :: q, rfl⟩
  ·rw [if_neg h0] at h
   cases pre with
   | nil =>
    injection h with h1 h2
    rw [← h1] at hc
    exact absurd hc (by decide)
   | cons a p =>
    injection h with h1 h2
    cases p with
    | nil => exact ⟨[], by rw [← h1]; rfl⟩
    | cons b p =>
     injection h2 with h3 h4
     obtain ⟨q, rfl⟩ := ih p post c h4 hc
     exact ⟨a :: b :: q, rfl⟩
theorem pair_head {p : Pr} {s : Sg} (hs : IsState s) (h : isKeyB p.key = true) : headT s ≠ pairT p := by
 intro e
 have hl := key_len h
 obtain ⟨_, k1, k2⟩ := key_parts h
 have hp : pairT p = putN (putB p.key).1.length ++ ((putB p.key).1 ++ p.val) := by
  unfold pairT textT
  rw [if_neg (by omega), List.append_assoc]
 have hh : headT s = putN s.last.toNat ++ catN [s.mark, (s.pairs.length : Int), (s.pins.length : Int), (s.seen.length : Int)] := by
  simp [headT, catN]
 have h0 := hs.mark0
 have h1 := hs.mark
 have h2 := hs.last
 have h3 := hs.many
 have h4 := hs.pinsN
 have h5 := hs.seenN
 have g1 := getNum_put (n := s.last.toNat) (by omega) (catN [s.mark, (s.pairs.length : Int), (s.pins.length : Int), (s.seen.length : Int)])
 have g2 := getNum_put (n := (putB p.key).1.length) (by omega) ((putB p.key).1 ++ p.val)
 rw [← hh, e, hp, g2] at g1
 have hn : (putB p.key).1.length = s.last.toNat := by
  injection g1 with g1
  injection g1
 obtain ⟨q, hq⟩ := behind_one (l := [s.last, s.mark, (s.pairs.length : Int), (s.pins.length : Int), (s.seen.length : Int)]) (by
   intro x hx
   simp at hx
   rcases hx with rfl | rfl | rfl | rfl | rfl <;> omega)
  (putN (putB p.key).1.length ++ p.key.path ++ [0]) ([byteAt (4294967295 - p.key.time).toNat 2, byteAt (4294967295 - p.key.time).toNat 1, byteAt (4294967295 - p.key.time).toNat 0] ++ p.val) (byteAt (4294967295 - p.key.time).toNat 3)
  (by
   show headT s = _
   rw [e, hp]
   have : (putB p.key).1 = p.key.path ++ 0 :: be4 (4294967295 - p.key.time).toNat := by rw [putB_ok h]
   generalize putN (putB p.key).1.length = z
   rw [this]
   simp [be4])
  (by
   unfold byteAt
   rw [UInt8.toNat_ofNat']
   omega)
 have := congrArg List.getLast? hq
 simp at this
theorem less_none {s : Sg} (hs : IsState s) {i : Nat} (hi : i < (texts s).length) : getSg ((texts s).take i ++ (texts s).drop (i + 1)) = none := by
 have hr := rowN_cat (l := [s.last, s.mark, (s.pairs.length : Int), (s.pins.length : Int), (s.seen.length : Int)]) (by
  intro x hx
  have := hs.mark0
  have := hs.mark
  have := hs.last
  have := hs.many
  have := hs.pinsN
  have := hs.seenN
  simp at hx
  rcases hx with rfl | rfl | rfl | rfl | rfl <;> omega)
 cases i with
 | zero =>
  show getSg (s.pairs.map pairT ++ (s.pins.map pinT ++ s.seen.map seenT)) = none
  cases hg : getSg (s.pairs.map pairT ++ (s.pins.map pinT ++ s.seen.map seenT)) with
  | none => rfl
  | some u =>
   exfalso
   obtain ⟨hu, ht⟩ := dump_get hg
   have hm : headT u ∈ s.pairs.map pairT ++ (s.pins.map pinT ++ s.seen.map seenT) := by
    rw [← ht]
    simp [texts]
   have hru := rowN_cat (l := [u.last, u.mark, (u.pairs.length : Int), (u.pins.length : Int), (u.seen.length : Int)]) (by
    intro x hx
    have := hu.mark0
    have := hu.mark
    have := hu.last
    have := hu.many
    have := hu.pinsN
    have := hu.seenN
    simp at hx
    rcases hx with rfl | rfl | rfl | rfl | rfl <;> omega)
   change rowN (headT u) 5 = _ at hru
   rcases List.mem_append.1 hm with hm | hm
   ·obtain ⟨p, hp, e⟩ := List.mem_map.1 hm
    exact pair_head hu (okP_key (isSt_mem hs.st hp)) e.symm
   ·rcases List.mem_append.1 hm with hm | hm
    ·obtain ⟨p, hp, e⟩ := List.mem_map.1 hm
     have hq := upB_mem hs.pins p hp
     unfold mayPn at hq
     simp at hq
     have := rowN_none (l := [p.session, p.at_]) (k := 5) (by
      intro x hx
      simp at hx
      rcases hx with rfl | rfl <;> omega) (by simp)
     rw [← e] at hru
     unfold pinT at hru
     rw [this] at hru
     cases hru
    ·obtain ⟨p, hp, e⟩ := List.mem_map.1 hm
     have hq := upB_mem hs.seen p hp
     unfold mayBn at hq
     simp at hq
     have := rowN_none (l := [p.client, p.seq, p.code, p.n]) (k := 5) (by
      intro x hx
      simp at hx
      rcases hx with rfl | rfl | rfl | rfl <;> omega) (by simp)
     rw [← e] at hru
     unfold seenT at hru
     rw [this] at hru
     cases hru
 | succ i =>
  unfold texts at hi ⊢
  simp only [List.take_succ_cons, List.drop_succ_cons, List.cons_append]
  show (match rowN (headT s) 5 with
   | some [a, b, c, d, e] => bodyO a b c d e _
   | _ => none) = _
  unfold headT
  rw [show rowN (catN [s.last, s.mark, (s.pairs.length : Int), (s.pins.length : Int), (s.seen.length : Int)]) 5 = some [s.last, s.mark, (s.pairs.length : Int), (s.pins.length : Int), (s.seen.length : Int)] from hr]
  show bodyO _ _ _ _ _ _ = _
  unfold bodyO
  rw [if_neg]
  simp at hi ⊢
  omega
theorem more_none {s : Sg} (hs : IsState s) (x : Bytes) : getSg (texts s ++ [x]) = none := by
 have hr := rowN_cat (l := [s.last, s.mark, (s.pairs.length : Int), (s.pins.length : Int), (s.seen.length : Int)]) (by
  intro x hx
  have := hs.mark0
  have := hs.mark
  have := hs.last
  have := hs.many
  have := hs.pinsN
  have := hs.seenN
  simp at hx
  rcases hx with rfl | rfl | rfl | rfl | rfl <;> omega)
 unfold texts
 rw [List.cons_append]
 show (match rowN (headT s) 5 with
  | some [a, b, c, d, e] => bodyO a b c d e _
  | _ => none) = _
 unfold headT
 rw [show rowN (catN [s.last, s.mark, (s.pairs.length : Int), (s.pins.length : Int), (s.seen.length : Int)]) 5 = some [s.last, s.mark, (s.pairs.length : Int), (s.pins.length : Int), (s.seen.length : Int)] from hr]
 show bodyO _ _ _ _ _ _ = _
 unfold bodyO
 rw [if_neg]
 simp
 omega
end Go.Proofs.YtmgkebghojhocaaGreatDoor
