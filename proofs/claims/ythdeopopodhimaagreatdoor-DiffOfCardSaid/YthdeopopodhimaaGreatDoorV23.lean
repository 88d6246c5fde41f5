/- Parts of the proof, one behind the other: MetaR, CurC, StoP, AbG9, TreeJ. No further condition. -/
import Derived.Test.YthdeopopodhimaaGreatDoorV16
import Derived.Test.YthdeopopodhimaaGreatDoorV21
import Derived.Test.YthdeopopodhimaaGreatDoorV22
import Derived.Test.YthdeopopodhimaaGreatDoorV11
import Derived.Test.YthdeopopodhimaaGreatDoorV19
set_option linter.unusedVariables false
set_option linter.unusedSimpArgs false
/- What is put of metadata is got. No further condition. -/
set_option linter.unusedVariables false
set_option linter.unusedSimpArgs false
namespace Go.Proofs.YthdeopopodhimaaGreatDoor
open Go.Ab

theorem byteAt_nat (n j : Nat) : (byteAt n j).toNat = n / 256 ^ j % 256 := by
  unfold byteAt
  rw [UInt8.toNat_ofNat']
  omega
theorem num_be4 {n : Nat} (h : n < 4294967296) : num (be4 n) = n := by
  unfold num be4
  simp only [List.foldl_cons, List.foldl_nil, byteAt_nat]
  have e0 : n / 256 ^ 0 = n := by simp
  have e1 : n / 256 ^ 1 = n / 256 := by simp
  have e2 : n / 256 ^ 2 = n / 65536 := rfl
  have e3 : n / 256 ^ 3 = n / 16777216 := rfl
  rw [e0, e1, e2, e3]
  omega
theorem num_drop : ∀ l : Bytes, num (l.dropWhile (· == 0)) = num l
  | [] => rfl
  | b :: r => by
    rw [List.dropWhile_cons]
    by_cases h : (b == 0) = true
    · rw [if_pos h, num_drop r]
      have : b = 0 := by simpa using h
      subst this
      rfl
    · rw [if_neg h]
theorem num_nb {n : Nat} (h : n < 4294967296) : num (nb n) = n := by
  unfold nb nbI
  rw [num_drop, show (be4 n).take 4 = be4 n from rfl, num_be4 h]
theorem drop_head : ∀ l : Bytes, (l.dropWhile (· == 0)).head? ≠ some 0
  | [] => by simp
  | b :: r => by
    rw [List.dropWhile_cons]
    by_cases h : (b == 0) = true
    · rw [if_pos h]
      exact drop_head r
    · rw [if_neg h]
      simp at h
      simp [h]
theorem getNum_put {n : Nat} (h : n < 4294967296) (r : Bytes) : getNum (putN n ++ r) = some (n, r) := by
  have hl : (nb n).length ≤ 4 := nbI_len n 4
  have hc : (UInt8.ofNat (nb n).length).toNat = (nb n).length := by
    rw [UInt8.toNat_ofNat']
    omega
  unfold putN
  rw [List.cons_append, getNum_some]
  · rw [hc, List.take_left, List.drop_left, num_nb h]
  · rw [hc, List.take_left]
    rintro (h1 | h1 | h1)
    · omega
    · rw [List.length_append] at h1
      omega
    · exact drop_head _ h1
theorem nums_cat : ∀ l : List Int, (∀ x, x ∈ l → 0 ≤ x ∧ x ≤ 4294967295) → nums (catN l) = some (l.map Int.toNat)
  | [], _ => nums_nil
  | x :: r, h => by
    have hx := h x (by simp)
    have e : catN (x :: r) = putN x.toNat ++ catN r := by simp [catN]
    rw [e, nums_some (getNum_put (by omega) _), nums_cat r (fun y hy => h y (by simp [hy]))]
    rfl
theorem getM_put {m : Mt} (h : isM m = true) : getM (catN (mtL m)) = (m, 0) := by
  have hin := mtL_in h
  unfold getM
  rw [nums_cat _ hin]
  have e : (mtL m).map Int.toNat = m.size.toNat :: m.mode.toNat :: m.ch.length :: m.ch.map Int.toNat := by
    unfold mtL
    simp
  have e2 : nI (m.ch.map Int.toNat) = m.ch := by
    unfold nI
    rw [List.map_map]
    have : ∀ l : List Int, (∀ x, x ∈ l → 0 ≤ x) → l.map ((fun n : Nat => (n : Int)) ∘ Int.toNat) = l := by
      intro l
      induction l with
      | nil => intro _; rfl
      | cons a r ih =>
        intro hl
        rw [List.map_cons, ih (fun x hx => hl x (by simp [hx]))]
        have := hl a (by simp)
        congr 1
        simp
        omega
    exact this _ (fun x hx => (hin x (by unfold mtL; simp [hx])).1)
  have hs := hin m.size (by unfold mtL; simp)
  have hm := hin m.mode (by unfold mtL; simp)
  have e3 : (⟨(m.size.toNat : Int), (m.mode.toNat : Int), nI (m.ch.map Int.toNat)⟩ : Mt) = m := by
    rw [e2, Int.toNat_of_nonneg hs.1, Int.toNat_of_nonneg hm.1]
  rw [e, getMo_yes (by simp) (by rw [e3]; exact h), e3]
theorem putN_ne (n : Nat) : ∃ c r, putN n = c :: r := ⟨_, _, rfl⟩
theorem readM_there {m : Mt} (h : isM m = true) : readM (valueM m false).1 = (m, false, 0) := by
  have e : (valueM m false).1 = 1 :: catN (mtL m) := by
    unfold valueM putM
    rw [if_neg (by simp), if_pos h, if_pos rfl]
  rw [e]
  show (if (1 : UInt8) = 0 ∧ catN (mtL m) = [] then (zeroMt, true, (0 : Int)) else if (1 : UInt8) = 1 then ((getM (catN (mtL m))).1, false, (getM (catN (mtL m))).2) else (zeroMt, false, 30)) = _
  rw [if_neg (by simp), if_pos rfl, getM_put h]
theorem readM_gone (m : Mt) : readM (valueM m true).1 = (zeroMt, true, 0) := by
  have e : (valueM m true).1 = [0] := by
    unfold valueM
    rw [if_pos rfl]
  rw [e]
  rfl
theorem readM_value {m : Mt} {g : Bool} (h : isM m = true) : (readM (valueM m g).1).2.1 = g ∧ (readM (valueM m g).1).2.2 = 0 := by
  cases g
  · rw [readM_there h]
    exact ⟨rfl, rfl⟩
  · rw [readM_gone]
    exact ⟨rfl, rfl⟩
end Go.Proofs.YthdeopopodhimaaGreatDoor

/- Plain facts of ranges and cursors. No further condition. -/
set_option linter.unusedVariables false
set_option linter.unusedSimpArgs false
namespace Go.Proofs.YthdeopopodhimaaGreatDoor
open Go.Ab

theorem fromP_ge {l : List Pr} {a b : Ky} (h : ∀ k, rless k a = true → rless k b = true) : fromP l b = (fromP l a).dropWhile fun p => rless p.key b := by
  unfold fromP
  induction l with
  | nil => rfl
  | cons p r ih =>
    cases h1 : rless p.key a
    · rw [List.dropWhile_cons (xs := r) (p := fun p => rless p.key a), if_neg (by rw [h1]; simp)]
    · rw [List.dropWhile_cons (xs := r) (p := fun p => rless p.key a), if_pos h1, List.dropWhile_cons, if_pos (h _ h1), ih]
theorem takeW_app {α : Type} {p q : α → Bool} (h : ∀ x, p x = true → q x = true) (l : List α) : l.takeWhile p ++ (l.dropWhile p).takeWhile q = l.takeWhile q := by
  induction l with
  | nil => rfl
  | cons x r ih =>
    cases hx : p x
    · rw [List.takeWhile_cons (p := p), if_neg (by rw [hx]; simp), List.dropWhile_cons, if_neg (by rw [hx]; simp)]
      rfl
    · rw [List.takeWhile_cons (p := p), if_pos hx, List.dropWhile_cons, if_pos hx, List.takeWhile_cons, if_pos (h x hx), List.cons_append, ih]
theorem range_len (l : List Pr) (a b : Ky) : (rangeC l a b).length ≤ l.length := ((List.takeWhile_sublist _).trans (List.dropWhile_sublist _)).length_le
/-- A range of two parts. -/
theorem range_two {l : List Pr} {a b c : Ky} (h1 : a = b ∨ rless a b = true) (h2 : b = c ∨ rless b c = true) : rangeC l a b ++ rangeC l b c = rangeC l a c := by
  have k1 : ∀ k, rless k a = true → rless k b = true := fun k hk => h1.elim (fun e => e ▸ hk) (rless_trans hk)
  have k2 : ∀ k, rless k b = true → rless k c = true := fun k hk => h2.elim (fun e => e ▸ hk) (rless_trans hk)
  unfold rangeC
  rw [fromP_ge k1]
  exact takeW_app (fun (x : Pr) => k2 x.key) _
theorem fromP_filter {l : List Pr} (hr : Rise l) (k : Ky) : fromP l k = l.filter fun p => !rless p.key k := by
  induction l with
  | nil => rfl
  | cons p r ih =>
    obtain ⟨h1, h2⟩ := List.pairwise_cons.1 hr
    unfold fromP at ih ⊢
    cases h : rless p.key k
    · rw [List.dropWhile_cons, if_neg (by rw [h]; simp), List.filter_cons, if_pos (by rw [h]; rfl)]
      congr 1
      refine (List.filter_eq_self.2 fun q hq => ?_).symm
      cases h3 : rless q.key k
      · rfl
      · rw [rless_trans (h1 q hq) h3] at h; cases h
    · rw [List.dropWhile_cons, if_pos h, List.filter_cons, if_neg (by rw [h]; simp), ih h2]
theorem take_filter {l : List Pr} (hr : Rise l) (k : Ky) : (l.takeWhile fun p => rless p.key k) = l.filter fun p => rless p.key k := by
  induction l with
  | nil => rfl
  | cons p r ih =>
    obtain ⟨h1, h2⟩ := List.pairwise_cons.1 hr
    cases h : rless p.key k
    · rw [List.takeWhile_cons, if_neg (by rw [h]; simp), List.filter_cons, if_neg (by rw [h]; simp)]
      refine (List.filter_eq_nil_iff.2 fun q hq => ?_).symm
      intro h3
      rw [rless_trans (h1 q hq) h3] at h
      cases h
    · rw [List.takeWhile_cons, if_pos h, List.filter_cons, if_pos h, ih h2]
theorem range_filter {l : List Pr} (hr : Rise l) (a b : Ky) : rangeC l a b = l.filter fun p => !rless p.key a && rless p.key b := by
  unfold rangeC
  rw [fromP_filter hr, take_filter (hr.sublist List.filter_sublist), List.filter_filter]
  congr 1
  funext p
  rw [Bool.and_comm]

theorem same_cut {P : Bytes} : ∀ {s : List Pr}, Rise s → (∀ q, q ∈ s → q.key.path = P ∨ bl P q.key.path = true) → (s.dropWhile fun q => q.key.path == P) = s.filter fun q => !(q.key.path == P)
  | [], _, _ => rfl
  | q :: s, hr, h => by
    obtain ⟨h1, h2⟩ := List.pairwise_cons.1 hr
    cases hq : q.key.path == P
    · rw [List.dropWhile_cons, if_neg (by rw [hq]; simp)]
      have hq' : q.key.path ≠ P := by simpa using hq
      have hb : bl P q.key.path = true := (h q (by simp)).resolve_left hq'
      refine (List.filter_eq_self.2 fun x hx => ?_).symm
      have hx' : bl P x.key.path = true := by
        rcases List.mem_cons.1 hx with rfl | hx
        · exact hb
        · have h3 := h1 x hx
          unfold rless at h3
          simp only [Bool.or_eq_true, Bool.and_eq_true, beq_iff_eq] at h3
          rcases h3 with h3 | ⟨h3, _⟩
          · exact bl_trans hb h3
          · rw [← h3]; exact hb
      cases h4 : x.key.path == P
      · rfl
      · have h5 : x.key.path = P := by simpa using h4
        rw [h5, bl_irrefl] at hx'
        cases hx'
    · rw [List.dropWhile_cons, if_pos hq, List.filter_cons, if_neg (by rw [hq]; simp)]
      exact same_cut h2 fun x hx => h x (by simp [hx])
theorem rise_paths {p : Pr} {r : List Pr} (hr : Rise (p :: r)) : ∀ q, q ∈ p :: r → q.key.path = p.key.path ∨ bl p.key.path q.key.path = true := by
  intro q hq
  rcases List.mem_cons.1 hq with rfl | hq
  · exact .inl rfl
  · have h3 := (List.pairwise_cons.1 hr).1 q hq
    unfold rless at h3
    simp only [Bool.or_eq_true, Bool.and_eq_true, beq_iff_eq] at h3
    rcases h3 with h3 | ⟨h3, _⟩
    · exact .inr h3
    · exact .inl h3.symm
theorem same_filter {u : Pr → Bool} {p : Pr} {r : List Pr} (hr : Rise (p :: r)) : (sameP p.key.path (p :: r)).filter u = ((p :: r).filter u).dropWhile fun q => q.key.path == p.key.path := by
  unfold sameP
  rw [same_cut hr (rise_paths hr), same_cut (hr.sublist List.filter_sublist) (fun q hq => rise_paths hr q (List.mem_filter.1 hq).1), List.filter_filter, List.filter_filter]
  congr 1
  funext q
  rw [Bool.and_comm]
theorem drop_find (l : List Pr) (k : Ky) : l.drop (findP l k) = fromP l k := by
  unfold findP fromP
  induction l with
  | nil => rfl
  | cons p r ih =>
    cases h : rless p.key k
    · rw [List.takeWhile_cons, if_neg (by rw [h]; simp), List.dropWhile_cons, if_neg (by rw [h]; simp)]
      rfl
    · rw [List.takeWhile_cons, if_pos h, List.dropWhile_cons, if_pos h, List.length_cons, List.drop_succ_cons, ih]
theorem drop_takeW {α : Type} (p : α → Bool) (l : List α) : l.drop (l.takeWhile p).length = l.dropWhile p := by
  induction l with
  | nil => rfl
  | cons x r ih =>
    cases h : p x
    · rw [List.takeWhile_cons, if_neg (by rw [h]; simp), List.dropWhile_cons, if_neg (by rw [h]; simp)]
      rfl
    · rw [List.takeWhile_cons, if_pos h, List.dropWhile_cons, if_pos h, List.length_cons, List.drop_succ_cons, ih]

/-- The program's cursor and the document's stand alike. -/
structure Alike (A : List Pr) (dir : Bytes) (m : List Pr) (i : Nat) : Prop where
  sub : m.Sublist A
  le : i ≤ (A.filter fun p => underB dir p.key.path).length
  eq : (A.filter fun p => underB dir p.key.path).drop i = m.filter fun p => underB dir p.key.path
theorem alike_new (A : List Pr) (dir : Bytes) : Alike A dir A 0 := ⟨List.Sublist.refl _, Nat.zero_le _, rfl⟩
theorem alike_head {A : List Pr} {dir : Bytes} {m : List Pr} {i : Nat} (h : Alike A dir m i) : (A.filter fun p => underB dir p.key.path).drop i = (skipU dir m).filter fun p => underB dir p.key.path := by rw [h.eq, filter_skip]
theorem drop_nil {α : Type} {l : List α} {i : Nat} (h : l.drop i = []) : l.length ≤ i := by
  have := congrArg List.length h
  simp at this
  omega
theorem alike_next {A : List Pr} {dir : Bytes} {m : List Pr} {i : Nat} (h : Alike A dir m i) :
    (nextC ((A.filter fun p => underB dir p.key.path).drop i)).1 = (nextC (skipU dir m)).1 ∧ Alike A dir (nextC (skipU dir m)).2 (rnextI (A.filter fun p => underB dir p.key.path) i) := by
  have hh := alike_head h
  have hs := (skipU_sub dir m).trans h.sub
  have hu := @skipU_head dir m
  unfold rnextI
  generalize skipU dir m = s at hh hs hu
  cases s with
  | nil =>
    have hd : (A.filter fun p => underB dir p.key.path).drop i = [] := hh
    have hl := drop_nil hd
    rw [hd, if_neg (by omega)]
    exact ⟨rfl, List.nil_sublist _, h.le, hd⟩
  | cons p r =>
    rw [List.filter_cons, if_pos (hu rfl)] at hh
    have hlt : i < (A.filter fun p => underB dir p.key.path).length := by
      have := congrArg List.length hh
      simp at this
      omega
    rw [hh, if_pos hlt]
    refine ⟨rfl, (List.sublist_cons_self p r).trans hs, by omega, ?_⟩
    have e : (A.filter fun p => underB dir p.key.path).drop (i + 1) = ((A.filter fun p => underB dir p.key.path).drop i).drop 1 := by rw [List.drop_drop]
    rw [e, hh]
    rfl
theorem alike_skip {A : List Pr} (hA : Rise A) {dir : Bytes} {m : List Pr} {i : Nat} (h : Alike A dir m i) :
    (skipC ((A.filter fun p => underB dir p.key.path).drop i)).1 = (skipC (skipU dir m)).1 ∧ Alike A dir (skipC (skipU dir m)).2 (rskipI (A.filter fun p => underB dir p.key.path) i) := by
  have hh := alike_head h
  have hs := (skipU_sub dir m).trans h.sub
  have hu := @skipU_head dir m
  unfold rskipI
  generalize skipU dir m = s at hh hs hu
  cases s with
  | nil =>
    have hd : (A.filter fun p => underB dir p.key.path).drop i = [] := hh
    rw [hd]
    exact ⟨rfl, List.nil_sublist _, h.le, hd⟩
  | cons p r =>
    have hr := hA.sublist hs
    have hf := same_filter (u := fun p => underB dir p.key.path) hr
    have hd : (A.filter fun p => underB dir p.key.path).drop i = p :: r.filter fun p => underB dir p.key.path := by rw [hh, List.filter_cons, if_pos (hu rfl)]
    have hlen := congrArg List.length hd
    rw [List.length_drop] at hlen
    have htl := (List.takeWhile_sublist (fun q : Pr => q.key.path == p.key.path) (l := p :: r.filter fun p => underB dir p.key.path)).length_le
    rw [hd]
    refine ⟨rfl, (List.dropWhile_sublist _).trans hs, ?_, ?_⟩
    · show i + ((p :: r.filter fun p => underB dir p.key.path).takeWhile fun q => q.key.path == p.key.path).length ≤ _
      have := h.le
      omega
    · show (A.filter fun p => underB dir p.key.path).drop (i + ((p :: r.filter fun p => underB dir p.key.path).takeWhile fun q => q.key.path == p.key.path).length) = (sameP p.key.path (p :: r)).filter _
      rw [hf, ← hh, ← List.drop_drop, ← hd, drop_takeW]
theorem alike_seek {A : List Pr} (hA : Rise A) {dir : Bytes} (k : Ky) : Alike A dir (fromP A k) (findP (A.filter fun p => underB dir p.key.path) k) := by
  refine ⟨List.dropWhile_sublist _, findP_le _ _, ?_⟩
  rw [drop_find, fromP_filter (hA.sublist List.filter_sublist), fromP_filter hA, List.filter_filter, List.filter_filter]
  congr 1
  funext q
  rw [Bool.and_comm]
end Go.Proofs.YthdeopopodhimaaGreatDoor

/- Plain facts on stores: the newest version, lists, batches laid. No further condition. -/
set_option linter.unusedVariables false
set_option linter.unusedSimpArgs false
namespace Go.Proofs.YthdeopopodhimaaGreatDoor
open Go.Ab

/-! ### The newest version -/
structure IsBest (l : List Pr) (p : Bytes) (w : Int) (x : Pr) : Prop where
  mem : x ∈ l
  path : x.key.path = p
  le : x.key.time ≤ w
  top : ∀ y, y ∈ l → y.key.path = p → y.key.time ≤ w → y.key.time ≤ x.key.time
theorem rless_def (a b : Ky) : rless a b = true ↔ bl a.path b.path = true ∨ (a.path = b.path ∧ b.time < a.time) := by
  unfold rless
  simp
theorem rless_no {a : Ky} {p : Bytes} {w : Int} (h : rless a ⟨p, w⟩ = false) (hp : a.path = p) : a.time ≤ w := by
  by_cases h2 : a.time ≤ w
  · exact h2
  · have := (rless_def a ⟨p, w⟩).2 (.inr ⟨hp, by show w < a.time; omega⟩)
    rw [h] at this
    cases this
theorem rless_yes {a : Ky} {p : Bytes} {w : Int} (hp : a.path = p) (h : a.time ≤ w) : rless a ⟨p, w⟩ = false := by
  cases hh : rless a ⟨p, w⟩
  · rfl
  · rcases (rless_def _ _).1 hh with h1 | ⟨_, h1⟩
    · have h1 : bl a.path p = true := h1
      rw [hp, bl_irrefl] at h1
      cases h1
    · have h1 : w < a.time := h1
      omega
def okT (l : List Pr) : Prop := ∀ y, y ∈ l → y.key.time ≤ 1000000000
theorem at_cases {l : List Pr} (hr : Rise l) (ht : okT l) (p : Bytes) (w : Int) : (∃ x, IsBest l p w x ∧ atL l p w = atP p x) ∨ ((∀ y, y ∈ l → y.key.path = p → ¬ y.key.time ≤ w) ∧ atL l p w = none) := by
  unfold atL
  have hf := fromP_filter hr ⟨p, min w 1000000000⟩
  have hin : ∀ y, y ∈ l → y.key.path = p → y.key.time ≤ w → y ∈ fromP l ⟨p, min w 1000000000⟩ := by
    intro y hy hp hw
    rw [hf, List.mem_filter]
    have := ht y hy
    exact ⟨hy, by rw [rless_yes hp (by omega)]; rfl⟩
  have hout : ∀ y, y ∈ fromP l ⟨p, min w 1000000000⟩ → y ∈ l ∧ rless y.key ⟨p, min w 1000000000⟩ = false := by
    intro y hy
    rw [hf, List.mem_filter] at hy
    exact ⟨hy.1, by simpa using hy.2⟩
  have hrf := fromP_rise (k := ⟨p, min w 1000000000⟩) hr
  generalize fromP l ⟨p, min w 1000000000⟩ = L at hin hout hrf
  cases L with
  | nil => exact .inr ⟨fun y hy hp hw => absurd (hin y hy hp hw) (by simp), rfl⟩
  | cons x r =>
    have hx := hout x (by simp)
    by_cases hp : x.key.path = p
    · refine .inl ⟨x, ⟨hx.1, hp, by have := rless_no hx.2 hp; omega, fun y hy hyp hyw => ?_⟩, rfl⟩
      rcases List.mem_cons.1 (hin y hy hyp hyw) with rfl | hy2
      · exact Int.le_refl _
      · have h3 := (List.pairwise_cons.1 hrf).1 y hy2
        rcases (rless_def _ _).1 h3 with h3 | ⟨_, h3⟩
        · rw [hp, hyp, bl_irrefl] at h3
          cases h3
        · omega
    · refine .inr ⟨fun y hy hyp hyw => ?_, ?_⟩
      · rcases List.mem_cons.1 (hin y hy hyp hyw) with rfl | hy2
        · exact hp hyp
        · have h3 := (List.pairwise_cons.1 hrf).1 y hy2
          rcases (rless_def _ _).1 h3 with h3 | ⟨h3, _⟩
          · rw [hyp] at h3
            have := (rless_def x.key ⟨p, min w 1000000000⟩).2 (.inl h3)
            rw [hx.2] at this
            cases this
          · exact hp (h3.trans hyp)
      · show atP p x = none
        unfold atP
        rw [if_neg (by simp [hp])]
theorem rise_inj {l : List Pr} (hr : Rise l) {x y : Pr} (hx : x ∈ l) (hy : y ∈ l) (h : x.key = y.key) : x = y := by
  induction l with
  | nil => cases hx
  | cons z r ih =>
    obtain ⟨h1, h2⟩ := List.pairwise_cons.1 hr
    rcases List.mem_cons.1 hx with e1 | hx2
    · rcases List.mem_cons.1 hy with e2 | hy2
      · rw [e1, e2]
      · have := h1 y hy2
        rw [← e1, h, rless_irrefl] at this
        cases this
    · rcases List.mem_cons.1 hy with e2 | hy2
      · have := h1 x hx2
        rw [← e2, h, rless_irrefl] at this
        cases this
      · exact ih h2 hx2 hy2
theorem best_eq {l : List Pr} (hr : Rise l) {p : Bytes} {w : Int} {x y : Pr} (hx : IsBest l p w x) (hy : IsBest l p w y) : x = y := by
  refine rise_inj hr hx.mem hy.mem ?_
  have h1 := hx.top y hy.mem hy.path hy.le
  have h2 := hy.top x hx.mem hx.path hx.le
  have h3 : x.key.path = y.key.path := hx.path.trans hy.path.symm
  have h4 : x.key.time = y.key.time := by omega
  cases hkx : x.key
  cases hky : y.key
  rw [hkx, hky] at h3 h4
  simp only at h3 h4
  rw [h3, h4]
theorem at_best {l : List Pr} (hr : Rise l) (ht : okT l) {p : Bytes} {w : Int} {x : Pr} (h : IsBest l p w x) : atL l p w = atP p x := by
  rcases at_cases hr ht p w with ⟨y, hy, e⟩ | ⟨hno, _⟩
  · rw [e, best_eq hr h hy]
  · exact absurd h.le (hno x h.mem h.path)
theorem at_none {l : List Pr} (hr : Rise l) (ht : okT l) {p : Bytes} {w : Int} (h : ∀ y, y ∈ l → y.key.path = p → ¬ y.key.time ≤ w) : atL l p w = none := by
  rcases at_cases hr ht p w with ⟨y, hy, e⟩ | ⟨_, e⟩
  · exact absurd hy.le (h y hy.mem hy.path)
  · exact e
theorem at_congr {l m : List Pr} (hr : Rise l) (ht : okT l) (hr' : Rise m) (ht' : okT m) {p : Bytes} {w : Int} (h : ∀ y : Pr, y.key.path = p → y.key.time ≤ w → (y ∈ l ↔ y ∈ m)) : atL l p w = atL m p w := by
  rcases at_cases hr ht p w with ⟨y, hy, e⟩ | ⟨hno, e⟩
  · rw [e]
    refine (at_best hr' ht' ⟨(h y hy.path hy.le).1 hy.mem, hy.path, hy.le, fun z hz hzp hzw => hy.top z ((h z hzp hzw).2 hz) hzp hzw⟩).symm
  · rw [e]
    exact (at_none hr' ht' fun z hz hzp hzw => hno z ((h z hzp hzw).2 hz) hzp hzw).symm
theorem at_is {l : List Pr} {p : Bytes} {w : Int} {e : En} (hr : Rise l) (ht : okT l) (h : atL l p w = some e) : e.path = p ∧ e.time ≤ w ∧ ∃ x, x ∈ l ∧ x.key.path = p ∧ e.time = x.key.time ∧ e.meta_ = (readM x.val).1 := by
  rcases at_cases hr ht p w with ⟨y, hy, e'⟩ | ⟨_, e'⟩
  · rw [e'] at h
    unfold atP at h
    split at h
    · cases h
      exact ⟨rfl, hy.le, y, hy.mem, hy.path, rfl, rfl⟩
    · cases h
  · rw [e'] at h
    cases h

/-! ### Lists -/
theorem skipU_mem {dir : Bytes} : ∀ {m : List Pr} {x : Pr}, x ∈ m → underB dir x.key.path = true → x ∈ skipU dir m
  | y :: r, x, hx, hu => by
    cases hy : underB dir y.key.path
    · rw [skipU_cons hy]
      rcases List.mem_cons.1 hx with rfl | hx
      · rw [hu] at hy
        cases hy
      · exact skipU_mem hx hu
    · rw [skipU_hit hy]
      exact hx
theorem sameP_mem {x : Pr} {r : List Pr} (hr : Rise (x :: r)) (y : Pr) : y ∈ sameP x.key.path (x :: r) ↔ y ∈ x :: r ∧ y.key.path ≠ x.key.path := by
  unfold sameP
  rw [same_cut hr (rise_paths hr), List.mem_filter]
  simp
theorem paths_ok : ∀ (n : Nat) (dir : Bytes) (m : List Pr), m.length ≤ n → Rise m → (pathsU dir m).Pairwise (fun a b => bl a b = true) ∧ ∀ p, p ∈ pathsU dir m ↔ underB dir p = true ∧ ∃ x, x ∈ m ∧ x.key.path = p
  | n, dir, m, hn, hr => by
    have hrs : Rise (skipU dir m) := hr.sublist (skipU_sub dir m)
    have hmem : ∀ p, (underB dir p = true ∧ ∃ x, x ∈ m ∧ x.key.path = p) ↔ (underB dir p = true ∧ ∃ x, x ∈ skipU dir m ∧ x.key.path = p) := by
      intro p
      constructor
      · rintro ⟨hu, x, hx, rfl⟩
        exact ⟨hu, x, skipU_mem hx hu, rfl⟩
      · rintro ⟨hu, x, hx, rfl⟩
        exact ⟨hu, x, (skipU_sub dir m).subset hx, rfl⟩
    have hhead := @skipU_head dir m
    have hlen := (skipU_sub dir m).length_le
    cases hs : skipU dir m with
    | nil =>
      rw [pathsU_nil hs]
      refine ⟨List.Pairwise.nil, fun p => ?_⟩
      rw [hmem, hs]
      simp
    | cons x r =>
      rw [hs] at hrs hlen
      have hux := hhead hs
      have hlt := sameP_lt x r
      rw [pathsU_cons hs]
      match n, hn with
      | 0, hn => simp at hlen; omega
      | n + 1, hn =>
        simp at hlen
        obtain ⟨h1, h2⟩ := paths_ok n dir (sameP x.key.path (x :: r)) (by omega) (hrs.sublist (List.dropWhile_sublist _))
        refine ⟨List.pairwise_cons.2 ⟨fun p hp => ?_, h1⟩, fun p => ?_⟩
        · obtain ⟨_, y, hy, rfl⟩ := (h2 p).1 hp
          obtain ⟨hy1, hy2⟩ := (sameP_mem hrs y).1 hy
          exact (rise_paths hrs y hy1).resolve_left hy2
        · rw [hmem, hs, List.mem_cons, h2]
          constructor
          · rintro (rfl | ⟨hu, y, hy, rfl⟩)
            · exact ⟨hux, x, by simp, rfl⟩
            · exact ⟨hu, y, ((sameP_mem hrs y).1 hy).1, rfl⟩
          · rintro ⟨hu, y, hy, rfl⟩
            by_cases he : y.key.path = x.key.path
            · exact .inl he
            · exact .inr ⟨hu, y, (sameP_mem hrs y).2 ⟨hy, he⟩, rfl⟩
theorem list_mem {l : List Pr} (hr : Rise l) (ht : okT l) (dir : Bytes) (w : Int) (e : En) : e ∈ listL l dir w ↔ underB dir e.path = true ∧ atL l e.path w = some e := by
  unfold listL
  rw [List.mem_filterMap]
  constructor
  · rintro ⟨p, hp, he⟩
    have := (at_is hr ht he).1
    subst this
    exact ⟨(((paths_ok _ dir l (Nat.le_refl _) hr).2 _).1 hp).1, he⟩
  · rintro ⟨hu, he⟩
    obtain ⟨_, _, x, hx, hxp, _⟩ := at_is hr ht he
    exact ⟨e.path, ((paths_ok _ dir l (Nat.le_refl _) hr).2 _).2 ⟨hu, x, hx, hxp⟩, he⟩
abbrev RiseE (l : List En) : Prop := l.Pairwise fun a b => bl a.path b.path = true
theorem rise_fm {f : Bytes → Option En} (hf : ∀ p e, f p = some e → e.path = p) : ∀ {l : List Bytes}, l.Pairwise (fun a b => bl a b = true) → RiseE (l.filterMap f)
  | [], _ => List.Pairwise.nil
  | p :: r, h => by
    obtain ⟨h1, h2⟩ := List.pairwise_cons.1 h
    rw [List.filterMap_cons]
    cases he : f p with
    | none => exact rise_fm hf h2
    | some e =>
      refine List.pairwise_cons.2 ⟨fun y hy => ?_, rise_fm hf h2⟩
      obtain ⟨q, hq, hy⟩ := List.mem_filterMap.1 hy
      rw [hf p e he, hf q y hy]
      exact h1 q hq
theorem list_rise {l : List Pr} (hr : Rise l) (ht : okT l) (dir : Bytes) (w : Int) : RiseE (listL l dir w) :=
  rise_fm (fun p e he => (at_is hr ht he).1) (paths_ok _ dir l (Nat.le_refl _) hr).1
/-- Rows that rise and hold the same are the same. -/
theorem riseE_eq : ∀ {a b : List En}, RiseE a → RiseE b → (∀ e, e ∈ a ↔ e ∈ b) → a = b
  | [], [], _, _, _ => rfl
  | [], y :: s, _, _, h => by have := (h y).2 (by simp); cases this
  | x :: r, [], _, _, h => by have := (h x).1 (by simp); cases this
  | x :: r, y :: s, ha, hb, h => by
    obtain ⟨h1, h2⟩ := List.pairwise_cons.1 ha
    obtain ⟨h3, h4⟩ := List.pairwise_cons.1 hb
    have e : x = y := by
      rcases List.mem_cons.1 ((h x).1 (by simp)) with e | hx
      · exact e
      · rcases List.mem_cons.1 ((h y).2 (by simp)) with e | hy
        · exact e.symm
        · have := bl_asymm (h3 x hx)
          rw [h1 y hy] at this
          cases this
    subst e
    congr 1
    refine riseE_eq h2 h4 fun z => ?_
    constructor
    · intro hz
      rcases List.mem_cons.1 ((h z).1 (by simp [hz])) with rfl | hz2
      · have := h1 z hz
        rw [bl_irrefl] at this
        cases this
      · exact hz2
    · intro hz
      rcases List.mem_cons.1 ((h z).2 (by simp [hz])) with rfl | hz2
      · have := h3 z hz
        rw [bl_irrefl] at this
        cases this
      · exact hz2
theorem list_congr {l m : List Pr} (hr : Rise l) (ht : okT l) (hr' : Rise m) (ht' : okT m) {w : Int} (h : ∀ p, atL l p w = atL m p w) (dir : Bytes) : listL l dir w = listL m dir w :=
  riseE_eq (list_rise hr ht dir w) (list_rise hr' ht' dir w) fun e => by rw [list_mem hr ht, list_mem hr' ht', h]

/-! ### Batches laid -/
theorem putP_self (l : List Pr) (p : Pr) : p ∈ putP l p := by
  induction l with
  | nil => simp [putP]
  | cons q r ih =>
    simp only [putP]
    split
    · simp [ih]
    · split <;> simp
theorem putP_keep {l : List Pr} {p y : Pr} (hy : y ∈ l) (h : y.key ≠ p.key) : y ∈ putP l p := by
  induction l with
  | nil => cases hy
  | cons q r ih =>
    simp only [putP]
    rcases List.mem_cons.1 hy with rfl | hy
    · split
      · simp
      · first
          | (rw [if_neg h]; simp)
          | simp
    · split
      · simp [ih hy]
      · split <;> simp [hy]
theorem putP_new {l : List Pr} {p : Pr} (h : ∀ y, y ∈ l → y.key ≠ p.key) : (putP l p).length = l.length + 1 := by
  induction l with
  | nil => rfl
  | cons q r ih =>
    simp only [putP]
    split
    · simp [ih (fun y hy => h y (by simp [hy]))]
    · rw [if_neg (h q (by simp))]
      rfl
noncomputable def layL (l : List Pr) (at_ : Int) (c : List Ch) : List Pr := c.foldl (fun l x => putP l (chP at_ x)) l
theorem layL_ok {at_ : Int} : ∀ {c : List Ch} {l : List Pr}, RiseC c → (∀ y, y ∈ l → ∀ x, x ∈ c → y.key ≠ (chP at_ x).key) → (∀ y, y ∈ layL l at_ c ↔ y ∈ l ∨ ∃ x, x ∈ c ∧ y = chP at_ x) ∧ (layL l at_ c).length = l.length + c.length
  | [], l, _, _ => ⟨fun y => by simp [layL], rfl⟩
  | x :: r, l, hc, hl => by
    obtain ⟨h1, h2⟩ := List.pairwise_cons.1 hc
    have hnew : ∀ y, y ∈ l → y.key ≠ (chP at_ x).key := fun y hy => hl y hy x (by simp)
    have hne : ∀ z, z ∈ r → (chP at_ x).key ≠ (chP at_ z).key := by
      intro z hz he
      have h3 := h1 z hz
      have : x.path = z.path := congrArg Ky.path he
      rw [this, bl_irrefl] at h3
      cases h3
    obtain ⟨h3, h4⟩ := layL_ok (at_ := at_) (c := r) (l := putP l (chP at_ x)) h2 (fun y hy z hz => by
      rcases putP_mem hy with rfl | hy
      · exact hne z hz
      · exact hl y hy z (by simp [hz]))
    refine ⟨fun y => ?_, ?_⟩
    · show y ∈ layL (putP l (chP at_ x)) at_ r ↔ _
      rw [h3]
      constructor
      · rintro (hy | ⟨z, hz, e⟩)
        · rcases putP_mem hy with e | hy
          · exact .inr ⟨x, by simp, e⟩
          · exact .inl hy
        · exact .inr ⟨z, by simp [hz], e⟩
      · rintro (hy | ⟨z, hz, e⟩)
        · exact .inl (putP_keep hy (hnew y hy))
        · rcases List.mem_cons.1 hz with rfl | hz
          · exact .inl (by rw [e]; exact putP_self _ _)
          · exact .inr ⟨z, hz, e⟩
    · show (layL (putP l (chP at_ x)) at_ r).length = _
      rw [h4, putP_new hnew, List.length_cons]
      omega
theorem maxAt_from (l : List Pr) : ∀ n : Int, n ≤ l.foldl (fun n p => max n p.key.time) n ∧ (∀ y, y ∈ l → y.key.time ≤ l.foldl (fun n p => max n p.key.time) n) ∧ (l.foldl (fun n p => max n p.key.time) n = n ∨ ∃ y, y ∈ l ∧ l.foldl (fun n p => max n p.key.time) n = y.key.time) := by
  induction l with
  | nil => intro n; exact ⟨Int.le_refl _, fun y hy => (by cases hy), .inl rfl⟩
  | cons x r ih =>
    intro n
    obtain ⟨h1, h2, h3⟩ := ih (max n x.key.time)
    simp only [List.foldl_cons]
    refine ⟨by omega, fun y hy => ?_, ?_⟩
    · rcases List.mem_cons.1 hy with rfl | hy
      · omega
      · exact h2 y hy
    · rcases h3 with h3 | ⟨y, hy, h3⟩
      · by_cases hx : n ≤ x.key.time
        · exact .inr ⟨x, by simp, by omega⟩
        · exact .inl (by omega)
      · exact .inr ⟨y, by simp [hy], h3⟩
theorem maxAt_is {l : List Pr} {n : Int} (h0 : 0 ≤ n) (h1 : ∀ y, y ∈ l → y.key.time ≤ n) (h2 : ∃ y, y ∈ l ∧ y.key.time = n) : maxAt l = n := by
  obtain ⟨a, b, c⟩ := maxAt_from l 0
  obtain ⟨y, hy, e⟩ := h2
  have h3 := b y hy
  unfold maxAt
  rcases c with c | ⟨z, hz, c⟩
  · omega
  · have := h1 z hz
    omega
theorem okP_parts {p : Pr} (h : okP p = true) : (readM p.val).2.2 = 0 ∧ isPathB p.key.path = true ∧ 0 ≤ p.key.time ∧ p.key.time ≤ 1000000000 ∧ p.key.path ≠ [] := by
  unfold okP isKeyB at h
  simp at h
  exact ⟨h.1.1, h.1.2.1.1, h.1.2.1.2, h.1.2.2, h.2⟩
theorem isSt_mem {l : List Pr} (h : isSt l = true) {p : Pr} (hp : p ∈ l) : okP p = true := by
  unfold isSt at h
  rw [List.all_eq_true] at h
  exact h p hp
theorem isSt_of {l : List Pr} (h : ∀ p, p ∈ l → okP p = true) : isSt l = true := by
  unfold isSt
  rw [List.all_eq_true]
  exact h
theorem isSt_okT {l : List Pr} (h : isSt l = true) : okT l := fun y hy => (okP_parts (isSt_mem h hy)).2.2.2.1
theorem may_parts {c : Ch} (h : mayB c = true) : c.path ≠ [] ∧ isPathB c.path = true ∧ isM c.meta_ = true ∧ (c.gone = true → c.meta_ = zeroMt) := by
  unfold mayB zeroB at h
  simp at h
  refine ⟨h.1.1.1, h.1.1.2, h.1.2, fun hg => ?_⟩
  rcases h.2 with h2 | h2
  · rw [hg] at h2
    cases h2
  · obtain ⟨⟨a, b⟩, c'⟩ := h2
    cases hm : c.meta_ with
    | mk s m l =>
      rw [hm] at a b c'
      simp only at a b c'
      rw [a, b, c']
      rfl
structure Lays (l : List Pr) (at_ : Int) (c : List Ch) : Prop where
  st : isSt l = true
  pos : 1 ≤ at_
  le : at_ ≤ 1000000000
  ne : c ≠ []
  may : ∀ x, x ∈ c → mayB x = true
  rise : RiseC c
  new : ∀ y, y ∈ l → y.key.time < at_
  last : lastL l < at_
theorem layB_parts {l : List Pr} {at_ : Int} {c : List Ch} (h : layB l at_ c = true) : Lays l at_ c := by
  unfold layB batchB at h
  simp only [Bool.and_eq_true, decide_eq_true_eq, List.all_eq_true] at h
  obtain ⟨⟨⟨⟨h1, h2⟩, h3⟩, ⟨⟨⟨h4, h5⟩, h6⟩, h7⟩⟩, h8⟩ := h
  refine ⟨h1, h2, h3, ?_, h6, h7, fun y hy => ?_, h8⟩
  · intro e
    rw [e] at h4
    simp at h4
  · unfold lastL at h8
    rw [if_pos h1] at h8
    have := (maxAt_from l 0).2.1 y hy
    unfold maxAt at h8
    omega
theorem lays_mem {l : List Pr} {at_ : Int} {c : List Ch} (h : Lays l at_ c) : (∀ y, y ∈ layL l at_ c ↔ y ∈ l ∨ ∃ x, x ∈ c ∧ y = chP at_ x) ∧ (layL l at_ c).length = l.length + c.length :=
  layL_ok h.rise fun y hy x hx e => by
    have := h.new y hy
    have e2 : y.key.time = at_ := congrArg Ky.time e
    omega
theorem chP_ok {l : List Pr} {at_ : Int} {c : List Ch} (h : Lays l at_ c) {x : Ch} (hx : x ∈ c) : okP (chP at_ x) = true := by
  obtain ⟨h1, h2, h3, _⟩ := may_parts (h.may x hx)
  unfold okP isKeyB chP
  simp only [(readM_value (g := x.gone) h3).2, h2]
  have := h.pos
  have := h.le
  simp
  exact ⟨⟨by omega, by omega⟩, h1⟩
theorem lays_st {l : List Pr} {at_ : Int} {c : List Ch} (h : Lays l at_ c) : isSt (layL l at_ c) = true := by
  refine isSt_of fun p hp => ?_
  rcases ((lays_mem h).1 p).1 hp with hp | ⟨x, hx, rfl⟩
  · exact isSt_mem h.st hp
  · exact chP_ok h hx
theorem lays_last {l : List Pr} {at_ : Int} {c : List Ch} (h : Lays l at_ c) : lastL (layL l at_ c) = at_ := by
  unfold lastL
  rw [if_pos (lays_st h)]
  obtain ⟨x, r, e⟩ := List.exists_cons_of_ne_nil h.ne
  refine maxAt_is (by have := h.pos; omega) (fun y hy => ?_) ⟨chP at_ x, ((lays_mem h).1 _).2 (.inr ⟨x, by rw [e]; simp, rfl⟩), rfl⟩
  rcases ((lays_mem h).1 y).1 hy with hy | ⟨z, hz, rfl⟩
  · have := h.new y hy
    omega
  · exact Int.le_refl _
theorem lays_old {l : List Pr} {at_ : Int} {c : List Ch} (h : Lays l at_ c) (hr : Rise l) (hr' : Rise (layL l at_ c)) {p : Bytes} {w : Int} (hp : w < at_ ∨ ∀ x, x ∈ c → x.path ≠ p) : atL (layL l at_ c) p w = atL l p w := by
  refine at_congr hr' (isSt_okT (lays_st h)) hr (isSt_okT h.st) fun y hyp hyw => ?_
  rw [(lays_mem h).1]
  constructor
  · rintro (hy | ⟨x, hx, rfl⟩)
    · exact hy
    · exfalso
      rcases hp with hp | hp
      · have : at_ ≤ w := hyw
        omega
      · exact hp x hx hyp
  · exact .inl
theorem lays_newest {l : List Pr} {at_ : Int} {c : List Ch} (h : Lays l at_ c) (hr' : Rise (layL l at_ c)) {x : Ch} (hx : x ∈ c) {w : Int} (hw : at_ ≤ w) : atL (layL l at_ c) x.path w = if x.gone = true then none else some ⟨x.path, at_, x.meta_⟩ := by
  have hb : IsBest (layL l at_ c) x.path w (chP at_ x) := by
    refine ⟨((lays_mem h).1 _).2 (.inr ⟨x, hx, rfl⟩), rfl, hw, fun y hy hyp hyw => ?_⟩
    rcases ((lays_mem h).1 y).1 hy with hy | ⟨z, hz, rfl⟩
    · have := h.new y hy
      show _ ≤ at_
      omega
    · exact Int.le_refl _
  rw [at_best hr' (isSt_okT (lays_st h)) hb]
  obtain ⟨_, _, h3, _⟩ := may_parts (h.may x hx)
  unfold atP
  cases hg : x.gone
  · rw [if_pos ⟨rfl, by show (readM (valueM x.meta_ x.gone).1).2.1 = false; rw [(readM_value h3).1, hg]⟩, if_neg (by simp)]
    show some (⟨x.path, at_, (readM (valueM x.meta_ x.gone).1).1⟩ : En) = _
    rw [hg, readM_there h3]
  · rw [if_neg, if_pos rfl]
    rintro ⟨_, h5⟩
    have h5 : (readM (valueM x.meta_ x.gone).1).2.1 = false := h5
    rw [(readM_value h3).1, hg] at h5
    cases h5
theorem layT_all {t : Tr} {at_ : Int} {c : List Ch} (h : t.all.length + c.length < 10000000) : (layT t at_ c).all = layL t.all at_ c := (layT_len c t h).2
end Go.Proofs.YthdeopopodhimaaGreatDoor

/- Own slices of wider elements, frozen. -/
set_option linter.unusedVariables false
set_option linter.unusedSimpArgs false
namespace Go.Ab
open Go.RowKit

/-- An own slice whose object nobody writes to any more: elements of sz cells. -/
theorem Joint.freezeS {n0 : Nat} {t : List (Nat × AV)} {ds : List ADef} {M : Mem} (i : Nat) {id n cap sz : Nat} {l xs : List AV} (h : AF.get ⟨t, ds⟩ i = .osl id 0 n cap sz) (hM : M.get id = some (.cells l)) (hx : l.take (n * sz) = flat xs) (hn : xs.length = n) (hnl : n * sz ≤ l.length) (hnc : n ≤ cap) (hs : ∀ x, x ∈ xs → x.cells.length = sz) :
    Joint n0 ⟨t, ds⟩ M ⟨(i, .sl sz xs .none) :: t, ds⟩ (M.drop id) := by
  intro μ0 μ F w0 w m a hnn he hg hr
  obtain ⟨b, c, ty, o1, o2, o3, o4, o5⟩ := hg.obj id l hM
  have hid : id < M.next := (hg.dom id).1 (by rw [o1]; simp)
  obtain ⟨μ2, k1, k2, k3, k4⟩ := gam_kill hg hid
  have hv := hr.tmps i
  rw [h] at hv
  obtain ⟨b', hb', hv'⟩ := gam_osl hg hM hv
  rw [o1] at hb'
  cases hb'
  refine ⟨μ2, he.trans k3, k4 _ rfl (fun j => Mem.get_drop M id j), hr.size, ?_, hr.defs.evo k3, fun p hp => (hr.kept p hp).evo k3⟩
  intro j
  by_cases e : j = i
  · subst e
    have : AF.get ⟨(j, .sl sz xs .none) :: t, ds⟩ j = .sl sz xs .none := by simp [AF.get, lookup]
    rw [this, hv', ← hn]
    have key : ∀ (p : Nat) (y : AV), (flat xs)[p]? = some y → l[p]? = some y ∧ p < l.length := by
      intro p y hp
      have hlt := (List.getElem?_eq_some_iff.1 hp).1
      rw [flat_length hs, hn] at hlt
      rw [← hx, List.getElem?_take, if_pos hlt] at hp
      exact ⟨hp, by omega⟩
    have hcell : ∀ p, p < l.length → c[p]? = some (c.getD p undef) := by
      intro p hp
      have : p < c.size := by omega
      simp [Array.getD, this]
    refine rep_sl (b := b) (o := 0) (vals := fun p => c.getD p undef) hs (by omega) (fun _ => rfl) ?_ trivial
    intro p y hp
    obtain ⟨h2, h3⟩ := key p y hp
    refine ⟨o4 p _ (hcell p h3), ?_, ⟨hg.frm b _ ⟨id, .inl o1⟩, ?_⟩, (o5 p _ _ h2 (hcell p h3)).evo k3⟩
    · rw [Nat.zero_add, cell_mk o2]
      exact hcell p h3
    · intro ho
      obtain ⟨i', hi', h4 | ⟨e', g', h4, _⟩⟩ := k2 b _ ho
      · exact hi' (hg.inj i' id b (.inl h4) (.inl o1))
      · exact hi' (hg.inj i' id b (.inr ⟨e', g', h4⟩) (.inl o1))
  · have : AF.get ⟨(i, .sl sz xs .none) :: t, ds⟩ j = AF.get ⟨t, ds⟩ j := by simp [AF.get, lookup, e]
    rw [this]
    exact (hr.tmps j).evo k3
end Go.Ab

/- Rows of pairs grow, and are laid one behind the other (leaves). No further condition. -/
set_option linter.unusedVariables false
set_option linter.unusedSimpArgs false
namespace Go.Proofs.YthdeopopodhimaaGreatDoor
open Go.Ab

def fl (l : List Pr) : List AV := flat (l.map Pr.av)
theorem prs_three (l : List Pr) : ∀ x, x ∈ l.map Pr.av → x.cells.length = 3 := by
  intro x hx
  obtain ⟨a, _, rfl⟩ := List.mem_map.1 hx
  rfl
theorem fl_len (l : List Pr) : (fl l).length = l.length * 3 := by
  unfold fl
  rw [flat_length (prs_three l)]
  simp
theorem fl_app (a b : List Pr) : fl (a ++ b) = fl a ++ fl b := by simp [fl, flat]
theorem fl_closed (l : List Pr) : ∀ x, x ∈ fl l → Closed x := by
  intro x hx
  unfold fl flat at hx
  obtain ⟨y, hy, hx⟩ := List.mem_flatMap.1 hx
  obtain ⟨a, _, rfl⟩ := List.mem_map.1 hy
  have : x ∈ [AV.str a.key.path, .int .i64 a.key.time, .str a.val] := hx
  exact closed3 closed_str closed_int closed_str x this
theorem flatRL_le (rows : List (List Pr × Bool)) (i : Nat) : (flatR (rows.take i)).length ≤ (flatR rows).length := by
  unfold flatR
  have : rows = rows.take i ++ rows.drop i := (List.take_append_drop i rows).symm
  conv => rhs; rw [this]
  rw [List.map_append, List.flatten_append, List.length_append]
  omega
def catFL (rows : List (List Pr × Bool)) (b : Bool) (i : Nat) (x : AV) : List (Nat × AV) := [(6, x), (25, .sl 1 (rows.map rowA) (tgB b)), (26, .int .i64 (rows.length : Int)), (27, .int .i64 (i : Int))]
theorem catL_K {k id : Nat} {rows : List (List Pr × Bool)} {b : Bool} {i : Nat} {x : AV} {f : AF} (h6 : SubK k id (f.get 6) x) (h25 : f.get 25 = .sl 1 (rows.map rowA) (tgB b)) (h26 : f.get 26 = .int .i64 (rows.length : Int)) (h27 : f.get 27 = .int .i64 (i : Int)) : SubsK k id f (catFL rows b i x) := by
  refine ⟨h6, ?_, ?_, ?_, trivial⟩
  · rw [h25]; exact SubK.of_closed (closed_rows rows b)
  · rw [h26]; exact SubK.of_closed closed_int
  · rw [h27]; exact SubK.of_closed closed_int
theorem catL_next {A B : List Pr} {cap' : Nat} {cells l' : List AV} (hc : cells.take (A.length * 3) = fl A) (g1 : A.length + (B.map Pr.av).length ≤ cap') (g2 : l'.length = cap' * 3)
    (g3 : l'.take ((A.length + (B.map Pr.av).length) * 3) = cells.take (A.length * 3) ++ flat (B.map Pr.av)) :
    l'.take (fl (A ++ B)).length = fl (A ++ B) ∧ l'.length = cap' * 3 ∧ (fl (A ++ B)).length ≤ cap' * 3 := by
  rw [List.length_map] at g1 g3
  rw [hc] at g3
  refine ⟨?_, g2, ?_⟩
  · rw [fl_len, List.length_append, fl_app]
    exact g3
  · rw [fl_len, List.length_append]
    omega
set_option maxRecDepth 100000 in
theorem growL_ok (n : Nat) (h0 : 0 < n) (h1 : n < 1000000) (M : Mem) : ACalls Tryz.prog 229 [.sl 0 [] .full, .int .i64 (n : Int)] M (fun e M' => ∃ (cap : Nat) (l' : List AV), n ≤ cap ∧ l'.length = cap * 3 ∧ e = .ret (.osl M.next 0 0 cap 3) ∧ M' = M.push (.cells l')) := by
  refine acalls_of tabOK Tryz.func229 rfl (by decide) (by simp [Tryz.f229]) ?_
  have d1 : decide ((n : Int) < 0) = false := by simp
  have w0 : IntKind.wrap .i64 ((n : Int) - 0) = (n : Int) := (Go.Ab.wrap_small (by omega) (by omega)).trans (by omega)
  have d2 : decide ((0 : Int) < (n : Int)) = true := by simp; omega
  repeat' (first | refine DW_VB tabs rfl d1 ?_ | refine DW_A tabs rfl ?_ | refine DW_nil ?_ | refine W_A rfl ?_ | refine DW_app tabOK rfl rfl (by simp; omega) (by simp; omega) ?_ | refine DW_app0 tabOK rfl (by simp; omega) (by simp; omega) ?_)
  refine DW_cap tabOK rfl rfl rfl rfl rfl rfl rfl ?_
  repeat' (first | refine DW_VB tabs rfl d2 ?_ | refine DW_VI tabs rfl w0 ?_ | refine DW_A tabs rfl ?_ | refine DW_nil ?_ | refine W_A rfl ?_ | refine DW_app tabOK rfl rfl (by simp; omega) (by simp; omega) ?_ | refine DW_app0 tabOK rfl (by simp; omega) (by simp; omega) ?_)
  refine DW_cap tabOK rfl rfl rfl rfl rfl rfl rfl ?_
  repeat' (first | refine DW_A tabs rfl ?_ | refine DW_nil ?_ | refine W_A rfl ?_ | refine DW_app tabOK rfl rfl (by simp; omega) (by simp; omega) ?_ | refine DW_app0 tabOK rfl (by simp; omega) (by simp; omega) ?_)
  refine DW_slice00 tabOK rfl rfl rfl rfl rfl rfl rfl rfl rfl ?_
  repeat' (first | refine DW_A tabs rfl ?_ | refine DW_nil ?_ | refine W_A rfl ?_ | refine DW_app tabOK rfl rfl (by simp; omega) (by simp; omega) ?_ | refine DW_app0 tabOK rfl (by simp; omega) (by simp; omega) ?_)
  refine DW_zapp tabOK rfl rfl rfl rfl rfl (n := n) rfl rfl rfl rfl rfl rfl rfl rfl h0 (by simp; omega) (by omega) ?_
  intro cap' l' g1 g2
  repeat' (first | refine DW_A tabs rfl ?_ | refine DW_nil ?_ | refine W_A rfl ?_ | refine DW_app tabOK rfl rfl (by simp; omega) (by simp; omega) ?_ | refine DW_app0 tabOK rfl (by simp; omega) (by simp; omega) ?_)
  refine DW_oslice tabOK rfl rfl rfl rfl rfl (l := l') rfl (by rw [Mem.get_push, if_pos rfl]) rfl rfl rfl rfl (by omega) (by simp) g1 ?_
  repeat' (first | refine DW_A tabs rfl ?_ | refine DW_nil ?_ | refine W_A rfl ?_ | refine DW_app tabOK rfl rfl (by simp; omega) (by simp; omega) ?_ | refine DW_app0 tabOK rfl (by simp; omega) (by simp; omega) ?_)
  exact ⟨rfl, _, rfl, cap', l', g1, g2, rfl, rfl⟩

set_option maxRecDepth 100000 in
theorem concatL_ok (rows : List (List Pr × Bool)) (b : Bool) (hr : rows.length < 1000) (h0 : 0 < (flatR rows).length) (h1 : (flatR rows).length < 100000) : APure Tryz.prog 227 [.sl 1 (rows.map rowA) (tgB b)] (.sl 3 ((flatR rows).map Pr.av) .none) := by
  refine pure_sub (closed1 (closed_rows rows b)) (closed_prs _) ?_
  refine acalls_of tabOK Tryz.func227 rfl (by decide) (by simp [Tryz.f227]) ?_
  have la : ((rows.map rowA).length : Int) = (rows.length : Int) := by simp
  repeat' (first | refine DW_VI tabs rfl la ?_ | refine DW_A tabs rfl ?_ | refine DW_nil ?_ | refine W_A rfl ?_ | refine DW_app tabOK rfl rfl (by simp; omega) (by simp; omega) ?_ | refine DW_app0 tabOK rfl (by simp; omega) (by simp; omega) ?_)
  refine W_count rows.length (fun i f N => N = ⟨0, []⟩ ∧ f = ⟨[(0, .sl 1 (rows.map rowA) (tgB b)), (3, .int .i64 ((flatR (rows.take i)).length : Int)), (9, .sl 1 (rows.map rowA) (tgB b)), (10, .int .i64 (rows.length : Int)), (11, .int .i64 (i : Int))], []⟩) (Nat.zero_le _) ⟨rfl, rfl⟩ (Joint.le ?_ (Mem.le_refl _)) ?_
  · skip
    repeat (refine AF.le_cons rfl ?_)
    exact AF.le_nil rfl
  · rintro i f N hi ⟨rfl, rfl⟩
    by_cases hi1 : i < rows.length
    · have d1 : decide ((i : Int) < (rows.length : Int)) = true := by simp; omega
      have hx : rows[i]? = some rows[i] := List.getElem?_eq_getElem hi1
      have fi := wrap_succ (i := i) (by omega)
      have hs := flatR_succ hx
      have hle := flatRL_le rows (i + 1)
      generalize rows[i] = r at hx hs
      rw [hs, List.length_append] at hle
      have lr : ((r.1.map Pr.av).length : Int) = (r.1.length : Int) := by simp
      have w1 : IntKind.wrap .i64 (((flatR (rows.take i)).length : Int) + (r.1.length : Int)) = ((flatR (rows.take (i + 1))).length : Int) := by
        rw [hs, List.length_append]
        exact (Go.Ab.wrap_small (by omega) (by omega)).trans (by omega)
      have d2 : decide (((flatR (rows.take (i + 1))).length : Int) < 0) = false := by simp
      repeat' (first | refine DW_VB tabs rfl d1 ?_ | refine DW_VI tabs rfl (by first | exact fi | exact la) ?_ | refine DW_A tabs rfl ?_ | refine DW_nil ?_ | refine W_A rfl ?_ | refine DW_app tabOK rfl rfl (by simp; omega) (by simp; omega) ?_ | refine DW_app0 tabOK rfl (by simp; omega) (by simp; omega) ?_)
      refine DW_ix tabOK rfl (ixN hx) ?_
      repeat' (first | refine DW_VB tabs rfl d2 ?_ | refine DW_VI tabs rfl (by first | exact fi | exact la | exact lr | exact w1) ?_ | refine DW_A tabs rfl ?_ | refine DW_nil ?_ | refine W_A rfl ?_ | refine DW_app tabOK rfl rfl (by simp; omega) (by simp; omega) ?_ | refine DW_app0 tabOK rfl (by simp; omega) (by simp; omega) ?_)
      refine ⟨hi1, _, _, ⟨rfl, rfl⟩, Joint.le ?_ (Mem.le_refl _)⟩
      repeat (refine AF.le_cons rfl ?_)
      exact AF.le_nil rfl
    · have d1 : decide ((i : Int) < (rows.length : Int)) = false := by simp; omega
      obtain rfl : i = rows.length := by omega
      rw [List.take_length]
      repeat' (first | refine DW_VB tabs rfl d1 ?_ | refine DW_A tabs rfl ?_ | refine DW_nil ?_ | refine W_A rfl ?_ | refine DW_app tabOK rfl rfl (by simp; omega) (by simp; omega) ?_ | refine DW_app0 tabOK rfl (by simp; omega) (by simp; omega) ?_)
      refine DW_call rfl rfl rfl rfl rfl rfl (growL_ok (flatR rows).length h0 (by omega) ⟨0, []⟩) ?_ (fun u M' ⟨_, _, _, _, e, _⟩ => by cases e)
      rintro u M' ⟨cap, l', g1, g2, g3, rfl⟩
      cases g3
      repeat' (first | refine DW_VI tabs rfl la ?_ | refine DW_A tabs rfl ?_ | refine DW_nil ?_ | refine W_A rfl ?_ | refine DW_app tabOK rfl rfl (by simp; omega) (by simp; omega) ?_ | refine DW_app0 tabOK rfl (by simp; omega) (by simp; omega) ?_)
      refine W_count rows.length (fun i f N => ∃ (cap : Nat) (cells : List AV) (id : Nat), id ≤ 1 ∧ (flatR (rows.take i)).length ≤ cap ∧ cells.take ((flatR (rows.take i)).length * 3) = fl (flatR (rows.take i)) ∧ cells.length = cap * 3 ∧ N = ⟨id + 1, [(id, .cells cells)]⟩ ∧ f = ⟨catFL rows b i (.osl id 0 (flatR (rows.take i)).length cap 3), []⟩) (Nat.zero_le _) ⟨cap, l', 0, Nat.zero_le 1, Nat.zero_le _, rfl, g2, rfl, rfl⟩ (Joint.le ?_ (Mem.le_refl _)) ?_
      · unfold catFL
        repeat (refine AF.le_cons rfl ?_)
        exact AF.le_nil rfl
      · rintro i f N hi ⟨cap, cells, id, hid, hcap, hce, hcl, rfl, rfl⟩
        have hle0 := flatRL_le rows i
        unfold catFL
        by_cases hi1 : i < rows.length
        · have d1 : decide ((i : Int) < (rows.length : Int)) = true := by simp; omega
          have hx : rows[i]? = some rows[i] := List.getElem?_eq_getElem hi1
          have fi := wrap_succ (i := i) (by omega)
          have hs := flatR_succ hx
          have hle := flatRL_le rows (i + 1)
          generalize rows[i] = r at hx hs
          rw [hs, List.length_append] at hle
          generalize flatR (rows.take i) = A at hs hle hle0 hce hcap
          have hl : (A ++ r.1).length = A.length + (r.1.map Pr.av).length := by simp
          have hid2 : id = 0 ∨ id = 1 := by omega
          rcases hid2 with rfl | rfl
          · repeat' (first | refine DW_VB tabs rfl d1 ?_ | refine DW_VI tabs rfl (by first | exact fi | exact la) ?_ | refine DW_A tabs rfl ?_ | refine DW_nil ?_ | refine W_A rfl ?_ | refine DW_app tabOK rfl rfl (by simp; omega) (by simp; omega) ?_ | refine DW_app0 tabOK rfl (by simp; omega) (by simp; omega) ?_)
            refine DW_ix tabOK rfl (ixN hx) ?_
            repeat' (first | refine DW_VI tabs rfl (by first | exact fi | exact la) ?_ | refine DW_A tabs rfl ?_ | refine DW_nil ?_ | refine W_A rfl ?_ | refine DW_app tabOK rfl rfl (by simp; omega) (by simp; omega) ?_ | refine DW_app0 tabOK rfl (by simp; omega) (by simp; omega) ?_)
            refine DW_oapp tabOK rfl rfl rfl rfl rfl (l := cells) rfl rfl rfl rfl rfl rfl rfl rfl rfl rfl (by omega) (by omega) (by simp; omega) (by simp; omega) ?_
            intro cap' l' g1 g2 g3
            repeat' (first | refine DW_VI tabs rfl (by first | exact la | exact fi) ?_ | refine DW_A tabs rfl ?_ | refine DW_nil ?_ | refine W_A rfl ?_ | refine DW_app tabOK rfl rfl (by simp; omega) (by simp; omega) ?_ | refine DW_app0 tabOK rfl (by simp; omega) (by simp; omega) ?_)
            obtain ⟨k1, k2, k3⟩ := catL_next hce g1 g2 g3
            have hg := rowG_all (k := 1) (id := 1) k1 k2 k3 (fl_closed _)
            refine ⟨hi1, _, _, ⟨cap', rowG (fl (A ++ r.1)) (cap' * 3), 1, Nat.le_refl 1, ?_, ?_, ?_, rfl, rfl⟩, Joint.move (k := 1) (id := 1) (Nat.le_refl 1) (Nat.le_refl 1) rfl hg.1 hg.2 trivial ?_ trivial⟩
            · rw [hs]; rw [fl_len] at k3; omega
            · rw [hs]; have := rowG_take (fl (A ++ r.1)) (cap' * 3); rw [fl_len] at this; exact this
            · exact rowG_len k3
            · rw [hs, hl]
              exact catL_K SubK.osl rfl rfl rfl
          · repeat' (first | refine DW_VB tabs rfl d1 ?_ | refine DW_VI tabs rfl (by first | exact fi | exact la) ?_ | refine DW_A tabs rfl ?_ | refine DW_nil ?_ | refine W_A rfl ?_ | refine DW_app tabOK rfl rfl (by simp; omega) (by simp; omega) ?_ | refine DW_app0 tabOK rfl (by simp; omega) (by simp; omega) ?_)
            refine DW_ix tabOK rfl (ixN hx) ?_
            repeat' (first | refine DW_VI tabs rfl (by first | exact fi | exact la) ?_ | refine DW_A tabs rfl ?_ | refine DW_nil ?_ | refine W_A rfl ?_ | refine DW_app tabOK rfl rfl (by simp; omega) (by simp; omega) ?_ | refine DW_app0 tabOK rfl (by simp; omega) (by simp; omega) ?_)
            refine DW_oapp tabOK rfl rfl rfl rfl rfl (l := cells) rfl rfl rfl rfl rfl rfl rfl rfl rfl rfl (by omega) (by omega) (by simp; omega) (by simp; omega) ?_
            intro cap' l' g1 g2 g3
            repeat' (first | refine DW_VI tabs rfl (by first | exact la | exact fi) ?_ | refine DW_A tabs rfl ?_ | refine DW_nil ?_ | refine W_A rfl ?_ | refine DW_app tabOK rfl rfl (by simp; omega) (by simp; omega) ?_ | refine DW_app0 tabOK rfl (by simp; omega) (by simp; omega) ?_)
            obtain ⟨k1, k2, k3⟩ := catL_next hce g1 g2 g3
            have hg := rowG_all (k := 1) (id := 2) k1 k2 k3 (fl_closed _)
            refine ⟨hi1, _, _, ⟨cap', rowG (fl (A ++ r.1)) (cap' * 3), 1, Nat.le_refl 1, ?_, ?_, ?_, rfl, rfl⟩, Joint.move (k := 1) (id := 2) (Nat.le_refl 1) (by omega) rfl hg.1 hg.2 trivial ?_ trivial⟩
            · rw [hs]; rw [fl_len] at k3; omega
            · rw [hs]; have := rowG_take (fl (A ++ r.1)) (cap' * 3); rw [fl_len] at this; exact this
            · exact rowG_len k3
            · rw [hs, hl]
              exact catL_K SubK.osl rfl rfl rfl
        · have d1 : decide ((i : Int) < (rows.length : Int)) = false := by simp; omega
          obtain rfl : i = rows.length := by omega
          rw [List.take_length] at hce hcap
          rw [List.take_length]
          have hid2 : id = 0 ∨ id = 1 := by omega
          rcases hid2 with rfl | rfl
          · refine W_ghost (Joint.freezeS 6 (xs := (flatR rows).map Pr.av) rfl rfl hce (by simp) (by omega) hcap (prs_three _)) ?_
            repeat' (first | refine DW_VB tabs rfl d1 ?_ | refine DW_A tabs rfl ?_ | refine DW_nil ?_ | refine W_A rfl ?_ | refine DW_app tabOK rfl rfl (by simp; omega) (by simp; omega) ?_ | refine DW_app0 tabOK rfl (by simp; omega) (by simp; omega) ?_)
            exact ⟨rfl, _, rfl, _, rfl, SubC.of_closed (closed_prs _)⟩
          · refine W_ghost (Joint.freezeS 6 (xs := (flatR rows).map Pr.av) rfl rfl hce (by simp) (by omega) hcap (prs_three _)) ?_
            repeat' (first | refine DW_VB tabs rfl d1 ?_ | refine DW_A tabs rfl ?_ | refine DW_nil ?_ | refine W_A rfl ?_ | refine DW_app tabOK rfl rfl (by simp; omega) (by simp; omega) ?_ | refine DW_app0 tabOK rfl (by simp; omega) (by simp; omega) ?_)
            exact ⟨rfl, _, rfl, _, rfl, SubC.of_closed (closed_prs _)⟩
end Go.Proofs.YthdeopopodhimaaGreatDoor
