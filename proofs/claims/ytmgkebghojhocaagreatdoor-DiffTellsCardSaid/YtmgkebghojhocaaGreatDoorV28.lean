/- Parts of the proof, one behind the other: DifA, DifB, DifC, DifD, DifP, DifE. No further condition. -/
import Derived.Test.YtmgkebghojhocaaGreatDoorV21
import Derived.Test.YtmgkebghojhocaaGreatDoorV13
import Derived.Test.YtmgkebghojhocaaGreatDoorV22
import Derived.Test.YtmgkebghojhocaaGreatDoorV23
import Derived.Test.YtmgkebghojhocaaGreatDoorV24
set_option linter.unusedVariables false
set_option linter.unusedSimpArgs false
/- Rows of deltas: the walk through two rows, whether metas are the same. No further condition. -/
set_option linter.unusedVariables false
set_option linter.unusedSimpArgs false
namespace Go.Proofs.YtmgkebghojhocaaGreatDoor
open Go.Ab

def walkF {σ : Type} (na nb : Nat) (pa pb : Nat → Bytes) (step : σ → Int → Int → σ) : Nat → Nat → Nat → σ → σ
 | 0, _, _, s => s
 | n + 1, i, k, s =>
  if na ≤ i ∧ nb ≤ k then s
  else if nb ≤ k ∨ (i < na ∧ bl (pa i) (pb k) = true) then walkF na nb pa pb step n (i + 1) k (step s i (-1))
  else if na ≤ i ∨ bl (pb k) (pa i) = true then walkF na nb pa pb step n i (k + 1) (step s (-1) k)
  else walkF na nb pa pb step n (i + 1) (k + 1) (step s i k)

theorem walkF_1 {σ : Type} {na nb : Nat} {pa pb : Nat → Bytes} {step : σ → Int → Int → σ} {n i k : Nat} {s : σ} (h : i < na) (h2 : nb ≤ k ∨ bl (pa i) (pb k) = true) :
  walkF na nb pa pb step (n + 1) i k s = walkF na nb pa pb step n (i + 1) k (step s i (-1)) := by
 have h3 : ¬ (na ≤ i ∧ nb ≤ k) := by omega
 have h4 : nb ≤ k ∨ (i < na ∧ bl (pa i) (pb k) = true) := h2.imp id fun e => ⟨h, e⟩
 simp only [walkF, if_neg h3, if_pos h4]
theorem walkF_2 {σ : Type} {na nb : Nat} {pa pb : Nat → Bytes} {step : σ → Int → Int → σ} {n i k : Nat} {s : σ} (h : k < nb) (h1 : i < na → bl (pa i) (pb k) = false) (h2 : na ≤ i ∨ bl (pb k) (pa i) = true) :
  walkF na nb pa pb step (n + 1) i k s = walkF na nb pa pb step n i (k + 1) (step s (-1) k) := by
 have h3 : ¬ (na ≤ i ∧ nb ≤ k) := by omega
 have h4 : ¬ (nb ≤ k ∨ (i < na ∧ bl (pa i) (pb k) = true)) := by
  rintro (h5 | ⟨h5, h6⟩)
  ·omega
  ·rw [h1 h5] at h6; cases h6
 simp only [walkF, if_neg h3, if_neg h4, if_pos h2]
theorem walkF_3 {σ : Type} {na nb : Nat} {pa pb : Nat → Bytes} {step : σ → Int → Int → σ} {n i k : Nat} {s : σ} (h0 : i < na) (h : k < nb) (h1 : bl (pa i) (pb k) = false) (h2 : bl (pb k) (pa i) = false) :
  walkF na nb pa pb step (n + 1) i k s = walkF na nb pa pb step n (i + 1) (k + 1) (step s i k) := by
 have h3 : ¬ (na ≤ i ∧ nb ≤ k) := by omega
 have h4 : ¬ (nb ≤ k ∨ (i < na ∧ bl (pa i) (pb k) = true)) := by
  rintro (h5 | ⟨h5, h6⟩)
  ·omega
  ·rw [h1] at h6; cases h6
 have h5 : ¬ (na ≤ i ∨ bl (pb k) (pa i) = true) := by
  rintro (h5 | h6)
  ·omega
  ·rw [h2] at h6; cases h6
 simp only [walkF, if_neg h3, if_neg h4, if_neg h5]
theorem walkF_more {σ : Type} {na nb : Nat} {pa pb : Nat → Bytes} {step : σ → Int → Int → σ} : ∀ {n i k : Nat} {s : σ}, (na - i) + (nb - k) + 1 ≤ n → walkF na nb pa pb step (n + 1) i k s = walkF na nb pa pb step n i k s
 | 0, i, k, s, h => by omega
 | n + 1, i, k, s, h => by
  rw [walkF]
  conv => rhs; rw [walkF]
  split
  ·rfl
  ·rename_i h0
   split
   ·rename_i h1
    by_cases hi : i < na
    ·exact walkF_more (by omega)
    ·exfalso
     rcases h1 with h1 | h1
     ·omega
     ·omega
   ·rename_i h1
    split
    ·exact walkF_more (by omega)
    ·exact walkF_more (by omega)
theorem walkF_end {σ : Type} {na nb : Nat} {pa pb : Nat → Bytes} {step : σ → Int → Int → σ} {n i k : Nat} {s : σ} (h : na ≤ i) (h2 : nb ≤ k) : walkF na nb pa pb step (n + 1) i k s = s := by
 simp only [walkF, if_pos (show na ≤ i ∧ nb ≤ k from ⟨h, h2⟩)]

set_option maxRecDepth 100000 in
set_option maxHeartbeats 4000000 in
theorem walk_ok {σ : Type} (S : σ → Mem) (J : σ → Nat → Nat → Prop) (step : σ → Int → Int → σ) (na nb : Nat) (hna : na < 1000000000) (hnb : nb < 1000000000) (pa pb : Nat → Bytes) (fa fb fs : FuncId) (ca cb cs : List AV)
  (ha : ∀ i, i < na → APure Tryz.prog fa (.int .i64 i :: ca) (.str (pa i))) (hb : ∀ i, i < nb → APure Tryz.prog fb (.int .i64 i :: cb) (.str (pb i)))
  (hs1 : ∀ s i k, J s i k → i < na → ACalls Tryz.prog fs (.int .i64 i :: .int .i64 (-1) :: cs) (S s) (fun e M => e = .ret (.tup []) ∧ M = S (step s i (-1))) ∧ J (step s i (-1)) (i + 1) k)
  (hs2 : ∀ s i k, J s i k → k < nb → ACalls Tryz.prog fs (.int .i64 (-1) :: .int .i64 k :: cs) (S s) (fun e M => e = .ret (.tup []) ∧ M = S (step s (-1) k)) ∧ J (step s (-1) k) i (k + 1))
  (hs3 : ∀ s i k, J s i k → i < na → k < nb → ACalls Tryz.prog fs (.int .i64 i :: .int .i64 k :: cs) (S s) (fun e M => e = .ret (.tup []) ∧ M = S (step s i k)) ∧ J (step s i k) (i + 1) (k + 1))
  (s0 : σ) (h0 : J s0 0 0) :
  ACalls Tryz.prog 102 [.int .i64 na, .int .i64 nb, .fn (.func fa) [] ca, .fn (.func fb) [] cb, .fn (.func fs) [] cs] (S s0) (fun e M => e = .ret (.tup []) ∧ M = S (walkF na nb pa pb step (na + nb + 1) 0 0 s0)) := by
 refine acalls_of tabOK Tryz.func102 rfl (by decide) (by simp [Tryz.f102]) ?_
 repeat' (first | refine DW_A tabs rfl ?_ | refine DW_nil ?_ | refine W_A rfl ?_)
 refine W_loop (fun m f N => ∃ (i k : Nat) (s : σ), i ≤ na ∧ k ≤ nb ∧ m = (na - i) + (nb - k) + 1 ∧ J s i k ∧ N = S s ∧ walkF na nb pa pb step m i k s = walkF na nb pa pb step (na + nb + 1) 0 0 s0 ∧
  f = ⟨[(0, .int .i64 na), (1, .int .i64 nb), (2, .fn (.func fa) [] ca), (3, .fn (.func fb) [] cb), (4, .fn (.func fs) [] cs), (10, .int .i64 i), (11, .int .i64 k)], []⟩)
  ⟨0, 0, s0, by omega, by omega, rfl, h0, rfl, by simp, rfl⟩ (Joint.le ?_ (Mem.le_refl _)) ?_
 ·skip
  repeat (refine AF.le_cons rfl ?_)
  exact AF.le_nil rfl
 ·rintro m f N ⟨i, k, s, hi, hk, rfl, hJ, rfl, hw, rfl⟩
  have hfi : i < na → IntKind.wrap .i64 ((i : Int) + 1) = ((i + 1 : Nat) : Int) := fun h => wrap_succ (by omega)
  have hfk : k < nb → IntKind.wrap .i64 ((k : Int) + 1) = ((k + 1 : Nat) : Int) := fun h => wrap_succ (by omega)
  by_cases h1 : i < na
  ·have d1 : decide ((i : Int) < (na : Int)) = true := decide_eq_true (by omega)
   have d2 : decide ((na : Int) ≤ (i : Int)) = false := decide_eq_false (by omega)
   have fi := hfi h1
   have kA := ha i h1
   by_cases h2 : k < nb
   ·have d3 : decide ((k : Int) < (nb : Int)) = true := decide_eq_true (by omega)
    have d4 : decide ((nb : Int) ≤ (k : Int)) = false := decide_eq_false (by omega)
    have fk := hfk h2
    have kB := hb k h2
    cases hl : bl (pa i) (pb k)
    ·cases hl2 : bl (pb k) (pa i)
     ·have ks := (hs3 s i k hJ h1 h2).1
      repeat' (first | refine DW_VB tabs rfl (by first | exact d1 | exact d2 | exact d3 | exact d4 | exact hl | exact hl2) ?_ | refine DW_VI tabs rfl (by first | exact fi | exact fk) ?_ | refine DW_A tabs rfl ?_ | refine DW_nil ?_ | refine W_A rfl ?_ | refine DW_C rfl kA ?_ | refine DW_C rfl kB ?_ | refine DW_CM rfl rfl (ks) ?_ ?_)
      rotate_left
      ·intro u M' h
       cases h.1
      rintro u M' ⟨e, rfl⟩
      cases e
      repeat' (first | refine DW_VB tabs rfl (by first | exact d1 | exact d2 | exact d3 | exact d4) ?_ | refine DW_VI tabs rfl (by first | exact fi | exact fk) ?_ | refine DW_A tabs rfl ?_ | refine DW_nil ?_ | refine W_A rfl ?_)
      refine ⟨(na - (i + 1)) + (nb - (k + 1)) + 1, _, _, by omega, ⟨i + 1, k + 1, step s i k, by omega, by omega, rfl, (hs3 s i k hJ h1 h2).2, rfl, ?_, rfl⟩, Joint.le ?_ (Mem.le_refl _)⟩
      ·rw [← hw, show na - i + (nb - k) + 1 = (na - (i + 1) + (nb - (k + 1)) + 1) + 1 + 1 from by omega]
       rw [walkF_3 h1 h2 hl hl2]
       exact (walkF_more (by omega)).symm
      ·skip
       repeat (refine AF.le_cons rfl ?_)
       exact AF.le_nil rfl
     ·have ks := (hs2 s i k hJ h2).1
      repeat' (first | refine DW_VB tabs rfl (by first | exact d1 | exact d2 | exact d3 | exact d4 | exact hl | exact hl2) ?_ | refine DW_VI tabs rfl (by first | exact fi | exact fk) ?_ | refine DW_A tabs rfl ?_ | refine DW_nil ?_ | refine W_A rfl ?_ | refine DW_C rfl kA ?_ | refine DW_C rfl kB ?_ | refine DW_CM rfl rfl (ks) ?_ ?_)
      rotate_left
      ·intro u M' h
       cases h.1
      rintro u M' ⟨e, rfl⟩
      cases e
      repeat' (first | refine DW_VB tabs rfl (by first | exact d1 | exact d2 | exact d3 | exact d4) ?_ | refine DW_VI tabs rfl (by first | exact fi | exact fk) ?_ | refine DW_A tabs rfl ?_ | refine DW_nil ?_ | refine W_A rfl ?_)
      refine ⟨(na - i) + (nb - (k + 1)) + 1, _, _, by omega, ⟨i, k + 1, step s (-1) k, by omega, by omega, rfl, (hs2 s i k hJ h2).2, rfl, ?_, rfl⟩, Joint.le ?_ (Mem.le_refl _)⟩
      ·rw [← hw, walkF_2 h2 (fun _ => hl) (.inr hl2), show na - i + (nb - k) = na - i + (nb - (k + 1)) + 1 from by omega]
      ·skip
       repeat (refine AF.le_cons rfl ?_)
       exact AF.le_nil rfl
    ·have ks := (hs1 s i k hJ h1).1
     repeat' (first | refine DW_VB tabs rfl (by first | exact d1 | exact d2 | exact d3 | exact d4 | exact hl) ?_ | refine DW_VI tabs rfl (by first | exact fi | exact fk) ?_ | refine DW_A tabs rfl ?_ | refine DW_nil ?_ | refine W_A rfl ?_ | refine DW_C rfl kA ?_ | refine DW_C rfl kB ?_ | refine DW_CM rfl rfl (ks) ?_ ?_)
     rotate_left
     ·intro u M' h
      cases h.1
     rintro u M' ⟨e, rfl⟩
     cases e
     repeat' (first | refine DW_VB tabs rfl (by first | exact d1 | exact d2 | exact d3 | exact d4) ?_ | refine DW_VI tabs rfl (by first | exact fi | exact fk) ?_ | refine DW_A tabs rfl ?_ | refine DW_nil ?_ | refine W_A rfl ?_)
     refine ⟨(na - (i + 1)) + (nb - k) + 1, _, _, by omega, ⟨i + 1, k, step s i (-1), by omega, by omega, rfl, (hs1 s i k hJ h1).2, rfl, ?_, rfl⟩, Joint.le ?_ (Mem.le_refl _)⟩
     ·rw [← hw, walkF_1 h1 (.inr hl), show na - i + (nb - k) = na - (i + 1) + (nb - k) + 1 from by omega]
     ·skip
      repeat (refine AF.le_cons rfl ?_)
      exact AF.le_nil rfl
   ·have d3 : decide ((k : Int) < (nb : Int)) = false := decide_eq_false (by omega)
    have d4 : decide ((nb : Int) ≤ (k : Int)) = true := decide_eq_true (by omega)
    have ks := (hs1 s i k hJ h1).1
    repeat' (first | refine DW_VB tabs rfl (by first | exact d1 | exact d2 | exact d3 | exact d4) ?_ | refine DW_VI tabs rfl fi ?_ | refine DW_A tabs rfl ?_ | refine DW_nil ?_ | refine W_A rfl ?_ | refine DW_C rfl kA ?_ | refine DW_CM rfl rfl (ks) ?_ ?_)
    rotate_left
    ·intro u M' h
     cases h.1
    rintro u M' ⟨e, rfl⟩
    cases e
    repeat' (first | refine DW_VB tabs rfl (by first | exact d1 | exact d2 | exact d3 | exact d4) ?_ | refine DW_VI tabs rfl fi ?_ | refine DW_A tabs rfl ?_ | refine DW_nil ?_ | refine W_A rfl ?_)
    refine ⟨(na - (i + 1)) + (nb - k) + 1, _, _, by omega, ⟨i + 1, k, step s i (-1), by omega, by omega, rfl, (hs1 s i k hJ h1).2, rfl, ?_, rfl⟩, Joint.le ?_ (Mem.le_refl _)⟩
    ·rw [← hw, walkF_1 h1 (.inl (by omega)), show na - i + (nb - k) = na - (i + 1) + (nb - k) + 1 from by omega]
    ·skip
     repeat (refine AF.le_cons rfl ?_)
     exact AF.le_nil rfl
  ·have d1 : decide ((i : Int) < (na : Int)) = false := decide_eq_false (by omega)
   have d2 : decide ((na : Int) ≤ (i : Int)) = true := decide_eq_true (by omega)
   by_cases h2 : k < nb
   ·have d3 : decide ((k : Int) < (nb : Int)) = true := decide_eq_true (by omega)
    have d4 : decide ((nb : Int) ≤ (k : Int)) = false := decide_eq_false (by omega)
    have fk := hfk h2
    have ks := (hs2 s i k hJ h2).1
    repeat' (first | refine DW_VB tabs rfl (by first | exact d1 | exact d2 | exact d3 | exact d4) ?_ | refine DW_VI tabs rfl fk ?_ | refine DW_A tabs rfl ?_ | refine DW_nil ?_ | refine W_A rfl ?_ | refine DW_CM rfl rfl (ks) ?_ ?_)
    rotate_left
    ·intro u M' h
     cases h.1
    rintro u M' ⟨e, rfl⟩
    cases e
    repeat' (first | refine DW_VB tabs rfl (by first | exact d1 | exact d2 | exact d3 | exact d4) ?_ | refine DW_VI tabs rfl fk ?_ | refine DW_A tabs rfl ?_ | refine DW_nil ?_ | refine W_A rfl ?_)
    refine ⟨(na - i) + (nb - (k + 1)) + 1, _, _, by omega, ⟨i, k + 1, step s (-1) k, by omega, by omega, rfl, (hs2 s i k hJ h2).2, rfl, ?_, rfl⟩, Joint.le ?_ (Mem.le_refl _)⟩
    ·rw [← hw, walkF_2 h2 (fun h => absurd h h1) (.inl (by omega)), show na - i + (nb - k) = na - i + (nb - (k + 1)) + 1 from by omega]
    ·skip
     repeat (refine AF.le_cons rfl ?_)
     exact AF.le_nil rfl
   ·have d3 : decide ((k : Int) < (nb : Int)) = false := decide_eq_false (by omega)
    repeat' (first | refine DW_VB tabs rfl (by first | exact d1 | exact d2 | exact d3) ?_ | refine DW_A tabs rfl ?_ | refine DW_nil ?_ | refine W_A rfl ?_)
    refine ⟨rfl, _, rfl, rfl, ?_⟩
    rw [← hw, walkF_end (by omega) (by omega)]

set_option maxRecDepth 100000 in
set_option maxHeartbeats 8000000 in
theorem dEqual_ok (a b : List Int) (ta tb : Tag) (ha : a.length < 1000000000) (hb : b.length < 1000000000) : APure Tryz.prog 164 [iA a ta, iA b tb] (.bool (decide (a = b))) := by
 intro M
 refine acalls_of tabOK Tryz.func164 rfl (by decide) (by simp [Tryz.f164]) ?_
 have la := len_map (fun n => AV.int .i64 n) a
 have lb := len_map (fun n => AV.int .i64 n) b
 unfold iA
 by_cases hl : a.length = b.length
 ·have d0 : (!decide ((a.length : Int) = (b.length : Int))) = false := by simp; omega
  repeat' (first | refine DW_VB tabs rfl d0 ?_ | refine DW_VI tabs rfl (by first | exact la | exact lb) ?_ | refine DW_A tabs rfl ?_ | refine DW_nil ?_ | refine W_A rfl ?_ | refine W_draw mixed [0, 1, 4, 5, 2, 3, 6, 7, 8] [.P, .P, .R, .R, .P, .P, .R, .R, .P] rfl rfl (by kernel_rfl) ?_)
  refine W_count a.length (fun i f N => N = M ∧ (a.take i = b.take i) ∧ f = ⟨[(0, .sl 1 (a.map fun n => AV.int .i64 n) ta), (1, .sl 1 (b.map fun n => AV.int .i64 n) tb), (12, .int .i64 (a.length : Int)), (13, .int .i64 (i : Int))], []⟩) (Nat.zero_le _) ⟨rfl, by simp, rfl⟩ (Joint.le ?_ (Mem.le_refl _)) ?_
  ·skip
   repeat (refine AF.le_cons rfl ?_)
   exact AF.le_nil rfl
  rintro i f N hi ⟨rfl, hinv, rfl⟩
  by_cases h1 : i < a.length
  ·have d1 : decide ((i : Int) < (a.length : Int)) = true := by simp; omega
   have hx : a[i]? = some a[i] := List.getElem?_eq_getElem h1
   have fi := wrap_succ (i := i) (by omega)
   have ht := take_succ hx
   have hm := List.getElem_mem h1
   generalize a[i] = x at hx ht hm
   have hy : b[i]? = some b[i] := List.getElem?_eq_getElem (by omega)
   have ht2 := take_succ hy
   generalize b[i] = y at hy ht2
   cases h2 : decide (x = y)
   ·have d2 : (!decide (x = y)) = true := by rw [h2]; rfl
    have e : decide (a = b) = false := by
     rw [decide_eq_false_iff_not]
     rintro rfl
     rw [hx] at hy
     cases hy
     simp at h2
    rw [e]
    repeat' (first | refine DW_VB tabs rfl (by first | exact d1 | exact d2) ?_ | refine DW_VI tabs rfl (by first | exact la | exact lb | exact fi) ?_ | refine DW_A tabs rfl ?_ | refine DW_nil ?_ | refine W_A rfl ?_ | refine DW_ix tabOK rfl (ixN hx) ?_ | refine DW_ix tabOK rfl (ixN hy) ?_ | refine W_draw mixed [0, 1, 4, 5, 2, 3, 6, 7, 8] [.P, .P, .R, .R, .P, .P, .R, .R, .P] rfl rfl (by kernel_rfl) ?_)
    exact ⟨rfl, _, rfl, rfl, rfl⟩
   ·have d2 : (!decide (x = y)) = false := by rw [h2]; rfl
    have := of_decide_eq_true h2
    subst this
    repeat' (first | refine DW_VB tabs rfl (by first | exact d1 | exact d2) ?_ | refine DW_VI tabs rfl (by first | exact la | exact lb | exact fi) ?_ | refine DW_A tabs rfl ?_ | refine DW_nil ?_ | refine W_A rfl ?_ | refine DW_ix tabOK rfl (ixN hx) ?_ | refine DW_ix tabOK rfl (ixN hy) ?_ | refine W_draw mixed [0, 1, 4, 5, 2, 3, 6, 7, 8] [.P, .P, .R, .R, .P, .P, .R, .R, .P] rfl rfl (by kernel_rfl) ?_)
    refine ⟨h1, _, _, ⟨rfl, (by rw [ht, ht2, hinv]), rfl⟩, Joint.le ?_ (Mem.le_refl _)⟩
    repeat (refine AF.le_cons rfl ?_)
    exact AF.le_nil rfl
  ·have d1 : decide ((i : Int) < (a.length : Int)) = false := by simp; omega
   obtain rfl : i = a.length := by omega
   have e : a = b := by
    rw [List.take_length, hl, List.take_length] at hinv
    exact hinv
   have e : decide (a = b) = true := decide_eq_true e
   rw [e]
   repeat' (first | refine DW_VB tabs rfl d1 ?_ | refine DW_VI tabs rfl (by first | exact la | exact lb) ?_ | refine DW_A tabs rfl ?_ | refine DW_nil ?_ | refine W_A rfl ?_ | refine W_draw mixed [0, 1, 4, 5, 2, 3, 6, 7, 8] [.P, .P, .R, .R, .P, .P, .R, .R, .P] rfl rfl (by kernel_rfl) ?_)
   exact ⟨rfl, _, rfl, rfl, rfl⟩
 ·have d0 : (!decide ((a.length : Int) = (b.length : Int))) = true := by simp; omega
  have e : decide (a = b) = false := by
   rw [decide_eq_false_iff_not]
   rintro rfl
   exact hl rfl
  rw [e]
  repeat' (first | refine DW_VB tabs rfl d0 ?_ | refine DW_VI tabs rfl (by first | exact la | exact lb) ?_ | refine DW_A tabs rfl ?_ | refine DW_nil ?_ | refine W_A rfl ?_ | refine W_draw mixed [0, 1, 4, 5, 2, 3, 6, 7, 8] [.P, .P, .R, .R, .P, .P, .R, .R, .P] rfl rfl (by kernel_rfl) ?_)
  exact ⟨rfl, _, rfl, rfl, rfl⟩
set_option maxRecDepth 100000 in
set_option maxHeartbeats 8000000 in
theorem dSame_ok (m k : Mt) (hm : m.ch.length < 1000000) (hk : k.ch.length < 1000000) : APure Tryz.prog 140 [m.av, k.av] (.bool (decide (m = k))) := by
 intro M
 refine acalls_of tabOK Tryz.func140 rfl (by decide) (by simp [Tryz.f140]) ?_
 have ki := dEqual_ok m.ch k.ch .none .none (by omega) (by omega)
 cases d1 : decide (m.size = k.size)
 ·rw [decide_eq_false (p := m = k) (by rintro rfl; simp at d1)]
  repeat' (first | refine DW_VB tabs rfl d1 ?_ | refine DW_A tabs rfl ?_ | refine DW_nil ?_ | refine W_A rfl ?_)
  exact ⟨rfl, _, rfl, rfl, rfl⟩
 ·cases d2 : decide (m.mode = k.mode)
  ·rw [decide_eq_false (p := m = k) (by rintro rfl; simp at d2)]
   repeat' (first | refine DW_VB tabs rfl (by first | exact d1 | exact d2) ?_ | refine DW_A tabs rfl ?_ | refine DW_nil ?_ | refine W_A rfl ?_)
   exact ⟨rfl, _, rfl, rfl, rfl⟩
  ·have e : decide (m = k) = decide (m.ch = k.ch) := by
    rw [decide_eq_decide, mt_eq]
    simp at d1 d2
    simp [d1, d2]
   rw [e]
   repeat' (first | refine DW_VB tabs rfl (by first | exact d1 | exact d2) ?_ | refine DW_A tabs rfl ?_ | refine DW_nil ?_ | refine W_A rfl ?_ | refine DW_C rfl ki ?_)
   exact ⟨rfl, _, rfl, rfl, rfl⟩

end Go.Proofs.YtmgkebghojhocaaGreatDoor

/- Rows of deltas: Entries. No further condition. -/
set_option linter.unusedVariables false
set_option linter.unusedSimpArgs false
namespace Go.Proofs.YtmgkebghojhocaaGreatDoor
open Go.Ab

structure Dl where
 path : Bytes
 kind : Int
deriving DecidableEq
def Dl.av (d : Dl) : AV := .agg [.str d.path, .int .i64 d.kind]
instance : Inhabited En := ⟨zeroEn⟩
instance : Inhabited Dl := ⟨⟨[], 0⟩⟩
theorem closed_dl (d : Dl) : Closed d.av := closed_agg (closed2 closed_str closed_int)
def dlA (l : List Dl) (t : Tag) : AV := .sl 2 (l.map Dl.av) t
theorem closed_dls (l : List Dl) : Closed (dlA l .none) := closed_slmap (fun d => closed_dl d) (fun d c hc => by
 have : c ∈ [AV.str d.path, .int .i64 d.kind] := hc
 exact closed2 closed_str closed_int c this)
set_option maxRecDepth 100000 in
set_option maxHeartbeats 8000000 in
theorem path1_ok (l : List En) (t : Tag) (i : Nat) (e : En) (he : l[i]? = some e) : APure Tryz.prog 137 [.int .i64 (i : Int), .ref [ensA l t]] (.str e.path) := by
 intro M
 refine acalls_of tabOK Tryz.func137 rfl (by decide) (by simp [Tryz.f137]) ?_
 unfold ensA
 repeat' (first | refine DW_A tabs rfl ?_ | refine DW_nil ?_ | refine W_A rfl ?_ | refine DW_ix tabOK rfl (ixN he) ?_)
 exact ⟨rfl, _, rfl, rfl, rfl⟩
set_option maxRecDepth 100000 in
set_option maxHeartbeats 8000000 in
theorem path2_ok (l : List En) (t : Tag) (i : Nat) (e : En) (he : l[i]? = some e) : APure Tryz.prog 138 [.int .i64 (i : Int), .ref [ensA l t]] (.str e.path) := by
 intro M
 refine acalls_of tabOK Tryz.func138 rfl (by decide) (by simp [Tryz.f138]) ?_
 unfold ensA
 repeat' (first | refine DW_A tabs rfl ?_ | refine DW_nil ?_ | refine W_A rfl ?_ | refine DW_ix tabOK rfl (ixN he) ?_)
 exact ⟨rfl, _, rfl, rfl, rfl⟩
/-- What the rows' memory holds. -/
def rows (s : List Dl × Nat) : Mem := ⟨2, [(0, .cells [dlA s.1 (.tok 1 s.2)]), (1, .spare s.2)]⟩
def more (s : List Dl × Nat) (d : Dl) : List Dl × Nat := (s.1 ++ [d], s.2 + 1)
theorem dl_app (l : List Dl) (d : Dl) (g : Nat) : dlA (l ++ [d]) (.tok 1 g) = .sl 2 (l.map Dl.av ++ [d.av]) (.tok 1 g) := by simp [dlA]
theorem rows_of {s : List Dl × Nat} {d : Dl} {M : Mem} (hn : 2 = M.next) (h0 : M.get 0 = some (.cells [.sl 2 (s.1.map Dl.av ++ [d.av]) (.tok 1 (s.2 + 1))])) (h1 : M.get 1 = some (.spare (s.2 + 1))) : (rows (more s d)).le M := by
 unfold rows more
 rw [dl_app]
 exact Mem.le_cons h0 (Mem.le_cons h1 (Mem.le_nil hn))
set_option maxRecDepth 100000 in
set_option maxHeartbeats 8000000 in
theorem seen_b (a b : List En) (ta tb : Tag) (k : Nat) (e : En) (he : b[k]? = some e) (s : List Dl × Nat) (hs : s.1.length < 1000000000) : ACalls Tryz.prog 139 [.int .i64 (-1), .int .i64 (k : Int), .ptr 0 0, .ref [ensA b tb], .ref [ensA a ta]] (rows s) ((fun r M => r = .ret (.tup []) ∧ (rows (more s ⟨e.path, 1⟩)).le M)) := by
 refine acalls_of tabOK Tryz.func139 rfl (by decide) (by simp [Tryz.f139]) ?_
 unfold ensA rows dlA
 have la := len_map Dl.av s.1
 repeat' (first | refine DW_VI tabs rfl la ?_ | refine DW_A tabs rfl ?_ | refine DW_nil ?_ | refine W_A rfl ?_ | refine DW_ix tabOK rfl (ixN he) ?_ | refine DW_row tabOK rfl ?_ | refine DW_app tabOK rfl rfl (by simp; omega) (by simp; omega) ?_ | refine DW_app0 tabOK rfl (by simp; omega) (by simp; omega) ?_ | refine W_draw mixed [2, 0, 1, 3, 4, 5, 6, 7, 8, 9] [.R, .R, .P, .R, .R, .R, .P, .P, .E, .E] rfl rfl (by kernel_rfl) ?_ | refine W_draw mixed [1, 6, 0, 2, 3, 4, 5, 7, 8, 9, 10, 11, 12] [.R, .P, .R, .R, .R, .R, .P, .R, .R, .R, .P, .P, .P] rfl rfl (by kernel_rfl) ?_)
 exact ⟨rfl, _, rfl, rfl, rows_of rfl rfl rfl⟩
set_option maxRecDepth 100000 in
set_option maxHeartbeats 8000000 in
theorem seen_a (a b : List En) (ta tb : Tag) (i : Nat) (e : En) (he : a[i]? = some e) (s : List Dl × Nat) (hs : s.1.length < 1000000000) : ACalls Tryz.prog 139 [.int .i64 (i : Int), .int .i64 (-1), .ptr 0 0, .ref [ensA b tb], .ref [ensA a ta]] (rows s) ((fun r M => r = .ret (.tup []) ∧ (rows (more s ⟨e.path, 3⟩)).le M)) := by
 refine acalls_of tabOK Tryz.func139 rfl (by decide) (by simp [Tryz.f139]) ?_
 have d1 : decide ((i : Int) < 0) = false := decide_eq_false (by omega)
 unfold ensA rows dlA
 have la := len_map Dl.av s.1
 repeat' (first | refine DW_VB tabs rfl d1 ?_ | refine DW_VI tabs rfl la ?_ | refine DW_A tabs rfl ?_ | refine DW_nil ?_ | refine W_A rfl ?_ | refine DW_ix tabOK rfl (ixN he) ?_ | refine DW_row tabOK rfl ?_ | refine DW_app tabOK rfl rfl (by simp; omega) (by simp; omega) ?_ | refine DW_app0 tabOK rfl (by simp; omega) (by simp; omega) ?_ | refine W_draw mixed [2, 0, 1, 3, 4, 5, 6, 7, 8, 9] [.R, .R, .P, .R, .R, .R, .P, .P, .E, .E] rfl rfl (by kernel_rfl) ?_ | refine W_draw mixed [1, 6, 0, 2, 3, 4, 5, 7, 8, 9, 10, 11, 12] [.R, .P, .R, .R, .R, .R, .P, .R, .R, .R, .P, .P, .P] rfl rfl (by kernel_rfl) ?_)
 exact ⟨rfl, _, rfl, rfl, rows_of rfl rfl rfl⟩
set_option maxRecDepth 100000 in
set_option maxHeartbeats 8000000 in
theorem seen_ab (a b : List En) (ta tb : Tag) (i k : Nat) (e e2 : En) (he : a[i]? = some e) (he2 : b[k]? = some e2) (hc : e.meta_.ch.length < 1000000) (hc2 : e2.meta_.ch.length < 1000000) (s : List Dl × Nat) (hs : s.1.length < 1000000000) : ACalls Tryz.prog 139 [.int .i64 (i : Int), .int .i64 (k : Int), .ptr 0 0, .ref [ensA b tb], .ref [ensA a ta]] (rows s) ((fun r M => r = .ret (.tup []) ∧ (rows (if e.meta_ = e2.meta_ then s else more s ⟨e.path, 2⟩)).le M)) := by
 refine acalls_of tabOK Tryz.func139 rfl (by decide) (by simp [Tryz.f139]) ?_
 have d1 : decide ((i : Int) < 0) = false := decide_eq_false (by omega)
 have d2 : decide ((k : Int) < 0) = false := decide_eq_false (by omega)
 have ks := dSame_ok e.meta_ e2.meta_ hc hc2
 have la := len_map Dl.av s.1
 by_cases h : e.meta_ = e2.meta_
 ·rw [decide_eq_true h] at ks
  rw [if_pos h]
  unfold ensA rows dlA
  repeat' (first | refine DW_VB tabs rfl (by first | exact d1 | exact d2) ?_ | refine DW_VI tabs rfl la ?_ | refine DW_A tabs rfl ?_ | refine DW_nil ?_ | refine W_A rfl ?_ | refine DW_C rfl ks ?_ | refine DW_ix tabOK rfl (ixN he) ?_ | refine DW_ix tabOK rfl (ixN he2) ?_ | refine DW_row tabOK rfl ?_ | refine DW_app tabOK rfl rfl (by simp; omega) (by simp; omega) ?_ | refine DW_app0 tabOK rfl (by simp; omega) (by simp; omega) ?_ | refine W_draw mixed [2, 0, 1, 3, 4, 5, 6, 7, 8, 9] [.R, .R, .P, .R, .R, .R, .P, .P, .E, .E] rfl rfl (by kernel_rfl) ?_ | refine W_draw mixed [1, 6, 0, 2, 3, 4, 5, 7, 8, 9, 10, 11, 12] [.R, .P, .R, .R, .R, .R, .P, .R, .R, .R, .P, .P, .P] rfl rfl (by kernel_rfl) ?_)
  exact ⟨rfl, _, rfl, rfl, Mem.le_refl _⟩
 ·rw [decide_eq_false h] at ks
  rw [if_neg h]
  unfold ensA rows dlA
  repeat' (first | refine DW_VB tabs rfl (by first | exact d1 | exact d2) ?_ | refine DW_VI tabs rfl la ?_ | refine DW_A tabs rfl ?_ | refine DW_nil ?_ | refine W_A rfl ?_ | refine DW_C rfl ks ?_ | refine DW_ix tabOK rfl (ixN he) ?_ | refine DW_ix tabOK rfl (ixN he2) ?_ | refine DW_row tabOK rfl ?_ | refine DW_app tabOK rfl rfl (by simp; omega) (by simp; omega) ?_ | refine DW_app0 tabOK rfl (by simp; omega) (by simp; omega) ?_ | refine W_draw mixed [2, 0, 1, 3, 4, 5, 6, 7, 8, 9] [.R, .R, .P, .R, .R, .R, .P, .P, .E, .E] rfl rfl (by kernel_rfl) ?_ | refine W_draw mixed [1, 6, 0, 2, 3, 4, 5, 7, 8, 9, 10, 11, 12] [.R, .P, .R, .R, .R, .R, .P, .R, .R, .R, .P, .P, .P] rfl rfl (by kernel_rfl) ?_)
  exact ⟨rfl, _, rfl, rfl, rows_of rfl rfl rfl⟩
end Go.Proofs.YtmgkebghojhocaaGreatDoor

/- Rows of deltas: Entries of the code. No further condition. -/
set_option linter.unusedVariables false
set_option linter.unusedSimpArgs false
namespace Go.Proofs.YtmgkebghojhocaaGreatDoor
open Go.Ab

def stepE (a b : List En) (s : List Dl × Nat) (i k : Int) : List Dl × Nat :=
 if i < 0 then more s ⟨(b.getD k.toNat default).path, 1⟩
 else if k < 0 then more s ⟨(a.getD i.toNat default).path, 3⟩
 else if (a.getD i.toNat default).meta_ = (b.getD k.toNat default).meta_ then s else more s ⟨(a.getD i.toNat default).path, 2⟩
/-- The deltas of two rows. -/
def entriesS (a b : List En) (s : List Dl × Nat) : List Dl × Nat :=
 walkF a.length b.length (fun i => (a.getD i default).path) (fun i => (b.getD i default).path) (stepE a b) (a.length + b.length + 1) 0 0 s
theorem getD_of {α : Type} {l : List α} {i : Nat} {e d : α} (h : l[i]? = some e) : l.getD i d = e := by simp [List.getD, h]
theorem jret {P : Program} {g : FuncId} {args : List AV} {M N : Mem} (h : ACalls P g args M (fun r M' => r = .ret (.tup []) ∧ N.le M')) : ACalls P g args M (fun r M' => r = .ret (.tup []) ∧ M' = N) := by
 refine h.joint ?_ ?_
 ·rintro x M' ⟨e, hle⟩
  cases e
  exact ⟨_, N, ⟨rfl, rfl⟩, Joint.le ⟨rfl, fun _ => Sub.refl⟩ hle⟩
 ·rintro x M' ⟨e, _⟩
  cases e
def smallE (l : List En) : Prop := l.length < 1000000 ∧ ∀ e, e ∈ l → e.meta_.ch.length < 1000000
theorem walkE_ok (a b : List En) (ha : smallE a) (hb : smallE b) : ACalls Tryz.prog 102 [.int .i64 (a.length : Int), .int .i64 (b.length : Int), .fn (.func 137) [] [.ref [ensA a .none]], .fn (.func 138) [] [.ref [ensA b .none]], .fn (.func 139) [] [.ptr 0 0, .ref [ensA b .none], .ref [ensA a .none]]] (rows ([], 0)) (fun e M => e = .ret (.tup []) ∧ M = rows (entriesS a b ([], 0))) := by
 have gA : ∀ i, i < a.length → a[i]? = some (a.getD i default) := fun i h => by simp [List.getD, h]
 have gB : ∀ i, i < b.length → b[i]? = some (b.getD i default) := fun i h => by simp [List.getD, h]
 refine walk_ok rows (fun s i k => s.1.length ≤ i + k ∧ i ≤ a.length ∧ k ≤ b.length) (stepE a b) a.length b.length (by have := ha.1; omega) (by have := hb.1; omega) (fun i => (a.getD i default).path) (fun i => (b.getD i default).path) 137 138 139 [.ref [ensA a .none]] [.ref [ensA b .none]] [.ptr 0 0, .ref [ensA b .none], .ref [ensA a .none]] (fun i hi => path1_ok a _ i _ (gA i hi)) (fun i hi => path2_ok b _ i _ (gB i hi)) ?_ ?_ ?_ ([], 0) ⟨by simp, by simp, by simp⟩
 ·intro s i k hJ hi
  have := ha.1
  have := hb.1
  have h0 : ¬ ((i : Int) < 0) := by omega
  have e : stepE a b s i (-1) = more s ⟨(a.getD i default).path, 3⟩ := by simp only [stepE, if_neg h0, Int.toNat_natCast]; rfl
  rw [e]
  exact ⟨jret (seen_a a b _ _ i _ (gA i hi) s (by omega)), by simp [more]; omega, by omega, by omega⟩
 ·intro s i k hJ hk
  have := ha.1
  have := hb.1
  have e : stepE a b s (-1) k = more s ⟨(b.getD k default).path, 1⟩ := by simp [stepE]
  rw [e]
  exact ⟨jret (seen_b a b _ _ k _ (gB k hk) s (by omega)), by simp [more]; omega, by omega, by omega⟩
 ·intro s i k hJ hi hk
  have := ha.1
  have := hb.1
  have e : stepE a b s i k = if (a.getD i default).meta_ = (b.getD k default).meta_ then s else more s ⟨(a.getD i default).path, 2⟩ := by
   have h1 : ¬ ((i : Int) < 0) := by omega
   have h2 : ¬ ((k : Int) < 0) := by omega
   simp only [stepE, if_neg h1, if_neg h2, Int.toNat_natCast]
  rw [e]
  refine ⟨jret (seen_ab a b _ _ i k _ _ (gA i hi) (gB k hk) (ha.2 _ (List.mem_of_getElem? (gA i hi))) (hb.2 _ (List.mem_of_getElem? (gB k hk))) s (by omega)), ?_, by omega, by omega⟩
  split
  ·omega
  ·simp [more]; omega
end Go.Proofs.YtmgkebghojhocaaGreatDoor

/- Rows of deltas: Entries of the document. No further condition. -/
set_option linter.unusedVariables false
set_option linter.unusedSimpArgs false
namespace Go.Proofs.YtmgkebghojhocaaGreatDoor
open Go.Ab

theorem sl_more (s : List Dl × Nat) (d : Dl) {k : Nat} : AV.sl 2 (s.1.map Dl.av ++ [d.av]) (.tok k (s.2 + 1)) = AV.sl 2 ((more s d).1.map Dl.av) (.tok k (more s d).2) := by simp [more]
def reF (a b : List En) (s : List Dl × Nat) (i k : Nat) : AF := ⟨[(0, ensA a .none), (1, ensA b .none), (5, dlA s.1 (.tok 0 s.2)), (6, .int .i64 (i : Int)), (7, .int .i64 (k : Int))], []⟩
end Go.Proofs.YtmgkebghojhocaaGreatDoor

/- Plain facts on rows of deltas: what is told of each path. No further condition. -/
set_option linter.unusedVariables false
set_option linter.unusedSimpArgs false
namespace Go.Proofs.YtmgkebghojhocaaGreatDoor
open Go.Ab

def one (p : Bytes) (k : Int) : List Dl := if k = 0 then [] else [⟨p, k⟩]
/-- Two rows by their paths, one kind for each path. -/
def mrg {α : Type} (pth : α → Bytes) (f : Option α → Option α → Int) : Nat → List α → List α → List Dl
 | 0, _, _ => []
 | _ + 1, [], [] => []
 | n + 1, x :: r, [] => one (pth x) (f (some x) none) ++ mrg pth f n r []
 | n + 1, [], y :: s => one (pth y) (f none (some y)) ++ mrg pth f n [] s
 | n + 1, x :: r, y :: s =>
  if bl (pth x) (pth y) = true then one (pth x) (f (some x) none) ++ mrg pth f n r (y :: s)
  else if bl (pth y) (pth x) = true then one (pth y) (f none (some y)) ++ mrg pth f n (x :: r) s
  else one (pth x) (f (some x) (some y)) ++ mrg pth f n r s
theorem drop_getD {α : Type} [Inhabited α] {a : List α} {i : Nat} (h : i < a.length) : a.drop i = a.getD i default :: a.drop (i + 1) := by
 rw [List.drop_eq_getElem_cons h]
 congr 1
 simp [List.getD, h]
theorem drop_end {α : Type} {a : List α} {i : Nat} (h : ¬ i < a.length) : a.drop i = [] := List.drop_eq_nil_iff.2 (by omega)
theorem walk_mrg {α : Type} [Inhabited α] {pth : α → Bytes} {f : Option α → Option α → Int} {a b : List α} {step : List Dl × Nat → Int → Int → List Dl × Nat}
  (h1 : ∀ s (i : Nat), i < a.length → (step s i (-1)).1 = s.1 ++ one (pth (a.getD i default)) (f (some (a.getD i default)) none))
  (h2 : ∀ s (k : Nat), k < b.length → (step s (-1) k).1 = s.1 ++ one (pth (b.getD k default)) (f none (some (b.getD k default))))
  (h3 : ∀ s (i k : Nat), i < a.length → k < b.length → (step s i k).1 = s.1 ++ one (pth (a.getD i default)) (f (some (a.getD i default)) (some (b.getD k default)))) :
  ∀ (n i k : Nat) (s : List Dl × Nat), (walkF a.length b.length (fun i => pth (a.getD i default)) (fun i => pth (b.getD i default)) step n i k s).1 = s.1 ++ mrg pth f n (a.drop i) (b.drop k)
 | 0, i, k, s => by simp [walkF, mrg]
 | n + 1, i, k, s => by
  by_cases hi : i < a.length
  ·rw [drop_getD hi]
   by_cases hk : k < b.length
   ·rw [drop_getD hk]
    unfold mrg
    cases e1 : bl (pth (a.getD i default)) (pth (b.getD k default))
    ·rw [if_neg (by simp)]
     cases e2 : bl (pth (b.getD k default)) (pth (a.getD i default))
     ·rw [if_neg (by simp), walkF_3 hi hk e1 e2, walk_mrg h1 h2 h3 n, h3 s i k hi hk, List.append_assoc]
     ·rw [if_pos rfl, walkF_2 hk (fun _ => e1) (.inr e2), walk_mrg h1 h2 h3 n, h2 s k hk, List.append_assoc, ← drop_getD hi]
    ·rw [if_pos rfl, walkF_1 hi (.inr e1), walk_mrg h1 h2 h3 n, h1 s i hi, List.append_assoc, ← drop_getD hk]
   ·rw [drop_end hk]
    unfold mrg
    rw [walkF_1 hi (.inl (by omega)), walk_mrg h1 h2 h3 n, h1 s i hi, List.append_assoc, drop_end hk]
  ·rw [drop_end hi]
   by_cases hk : k < b.length
   ·rw [drop_getD hk]
    unfold mrg
    rw [walkF_2 hk (fun h => absurd h hi) (.inl (by omega)), walk_mrg h1 h2 h3 n, h2 s k hk, List.append_assoc, drop_end hi]
   ·rw [drop_end hk, walkF_end (by omega) (by omega)]
    simp [mrg]

/-! ### What a row tells of a path -/
def RiseP {α : Type} (pth : α → Bytes) (l : List α) : Prop := l.Pairwise fun x y => bl (pth x) (pth y) = true
def getP {α : Type} (pth : α → Bytes) (l : List α) (p : Bytes) : Option α := l.find? fun x => decide (pth x = p)
def kindOf (l : List Dl) (p : Bytes) : Int := match getP Dl.path l p with
 | some d => d.kind
 | none => 0
def kk {α : Type} (f : Option α → Option α → Int) : Option α → Option α → Int
 | none, none => 0
 | u, v => f u v
theorem getP_none {α : Type} {pth : α → Bytes} {l : List α} {p : Bytes} (h : ∀ x, x ∈ l → pth x ≠ p) : getP pth l p = none := by
 unfold getP
 rw [List.find?_eq_none]
 intro x hx
 simpa using h x hx
theorem getP_cons {α : Type} {pth : α → Bytes} {l : List α} {x : α} {p : Bytes} : getP pth (x :: l) p = if pth x = p then some x else getP pth l p := by
 unfold getP
 rw [List.find?_cons]
 by_cases h : pth x = p <;> simp [h]
theorem getP_some {α : Type} {pth : α → Bytes} {l : List α} {x : α} {p : Bytes} (h : getP pth l p = some x) : x ∈ l ∧ pth x = p := by
 unfold getP at h
 exact ⟨List.mem_of_find?_eq_some h, by simpa using List.find?_some h⟩
theorem getP_mem {α : Type} {pth : α → Bytes} : ∀ {l : List α} {x : α}, RiseP pth l → x ∈ l → getP pth l (pth x) = some x
 | y :: r, x, hr, hx => by
  obtain ⟨h1, h2⟩ := List.pairwise_cons.1 hr
  rw [getP_cons]
  rcases List.mem_cons.1 hx with rfl | hx
  ·rw [if_pos rfl]
  ·have := h1 x hx
   rw [if_neg (fun e => by rw [e, bl_irrefl] at this; cases this)]
   exact getP_mem h2 hx
theorem kindOf_none {l : List Dl} {p : Bytes} (h : ∀ d, d ∈ l → d.path ≠ p) : kindOf l p = 0 := by
 unfold kindOf
 rw [getP_none h]
theorem kindOf_one {q : Bytes} {k : Int} {l : List Dl} {p : Bytes} : kindOf (one q k ++ l) p = if q = p ∧ k ≠ 0 then k else kindOf l p := by
 unfold one
 by_cases hk : k = 0
 ·rw [if_pos hk, if_neg (by simp [hk])]
  rfl
 ·rw [if_neg hk]
  show kindOf (⟨q, k⟩ :: l) p = _
  unfold kindOf
  rw [getP_cons]
  by_cases hq : q = p
  ·rw [if_pos hq, if_pos ⟨hq, hk⟩]
  ·rw [if_neg hq, if_neg (fun h => hq h.1)]
theorem kindOf_mem {l : List Dl} {d : Dl} (hr : RiseP Dl.path l) (hd : d ∈ l) : kindOf l d.path = d.kind := by
 unfold kindOf
 rw [getP_mem hr hd]
theorem one_mem {p : Bytes} {k : Int} {d : Dl} (h : d ∈ one p k) : d = ⟨p, k⟩ ∧ k ≠ 0 := by
 unfold one at h
 split at h
 ·cases h
 ·rename_i hk
  simp at h
  exact ⟨h, hk⟩
theorem mrg_mem {α : Type} {pth : α → Bytes} {f : Option α → Option α → Int} : ∀ {n : Nat} {a b : List α} {d : Dl}, d ∈ mrg pth f n a b → d.kind ≠ 0 ∧ ((∃ x, x ∈ a ∧ pth x = d.path) ∨ ∃ y, y ∈ b ∧ pth y = d.path)
 | 0, a, b, d, h => by cases h
 | n + 1, [], [], d, h => by cases h
 | n + 1, x :: r, [], d, h => by
  rcases List.mem_append.1 h with h | h
  ·obtain ⟨rfl, hk⟩ := one_mem h
   exact ⟨hk, .inl ⟨x, by simp, rfl⟩⟩
  ·obtain ⟨hk, ⟨z, hz, e⟩ | ⟨z, hz, e⟩⟩ := mrg_mem h
   ·exact ⟨hk, .inl ⟨z, by simp [hz], e⟩⟩
   ·cases hz
 | n + 1, [], y :: s, d, h => by
  rcases List.mem_append.1 h with h | h
  ·obtain ⟨rfl, hk⟩ := one_mem h
   exact ⟨hk, .inr ⟨y, by simp, rfl⟩⟩
  ·obtain ⟨hk, ⟨z, hz, e⟩ | ⟨z, hz, e⟩⟩ := mrg_mem h
   ·cases hz
   ·exact ⟨hk, .inr ⟨z, by simp [hz], e⟩⟩
 | n + 1, x :: r, y :: s, d, h => by
  unfold mrg at h
  split at h
  ·rcases List.mem_append.1 h with h | h
   ·obtain ⟨rfl, hk⟩ := one_mem h
    exact ⟨hk, .inl ⟨x, by simp, rfl⟩⟩
   ·obtain ⟨hk, ⟨z, hz, e⟩ | ⟨z, hz, e⟩⟩ := mrg_mem h
    ·exact ⟨hk, .inl ⟨z, by simp [hz], e⟩⟩
    ·exact ⟨hk, .inr ⟨z, hz, e⟩⟩
  ·split at h
   ·rcases List.mem_append.1 h with h | h
    ·obtain ⟨rfl, hk⟩ := one_mem h
     exact ⟨hk, .inr ⟨y, by simp, rfl⟩⟩
    ·obtain ⟨hk, ⟨z, hz, e⟩ | ⟨z, hz, e⟩⟩ := mrg_mem h
     ·exact ⟨hk, .inl ⟨z, hz, e⟩⟩
     ·exact ⟨hk, .inr ⟨z, by simp [hz], e⟩⟩
   ·rcases List.mem_append.1 h with h | h
    ·obtain ⟨rfl, hk⟩ := one_mem h
     exact ⟨hk, .inl ⟨x, by simp, rfl⟩⟩
    ·obtain ⟨hk, ⟨z, hz, e⟩ | ⟨z, hz, e⟩⟩ := mrg_mem h
     ·exact ⟨hk, .inl ⟨z, by simp [hz], e⟩⟩
     ·exact ⟨hk, .inr ⟨z, by simp [hz], e⟩⟩
theorem rise_one {p : Bytes} {k : Int} {l : List Dl} (h : RiseP Dl.path l) (h2 : ∀ d, d ∈ l → bl p d.path = true) : RiseP Dl.path (one p k ++ l) := by
 unfold one
 split
 ·exact h
 ·exact List.pairwise_cons.2 ⟨h2, h⟩
theorem ne_bl {p q : Bytes} (h : bl p q = true) : q ≠ p := fun e => by rw [e, bl_irrefl] at h; cases h
theorem bl_eq {p q : Bytes} (h1 : ¬ bl p q = true) (h2 : ¬ bl q p = true) : p = q := by
 by_cases h : p = q
 ·exact h
 ·rcases bl_total h with h | h
  ·exact absurd h h1
  ·exact absurd h h2
theorem mrg_ok {α : Type} {pth : α → Bytes} {f : Option α → Option α → Int} : ∀ {n : Nat} {a b : List α}, a.length + b.length ≤ n → RiseP pth a → RiseP pth b →
  RiseP Dl.path (mrg pth f n a b) ∧ ∀ p, kindOf (mrg pth f n a b) p = kk f (getP pth a p) (getP pth b p)
 | 0, a, b, hn, _, _ => by
  obtain rfl : a = [] := List.length_eq_zero_iff.1 (by omega)
  obtain rfl : b = [] := List.length_eq_zero_iff.1 (by omega)
  exact ⟨List.Pairwise.nil, fun p => rfl⟩
 | n + 1, [], [], _, _, _ => ⟨List.Pairwise.nil, fun p => rfl⟩
 | n + 1, x :: r, [], hn, ha, hb => by
  obtain ⟨a1, a2⟩ := List.pairwise_cons.1 ha
  obtain ⟨i1, i2⟩ := mrg_ok (f := f) (n := n) (a := r) (b := []) (by simp at hn ⊢; omega) a2 hb
  have hm : ∀ d, d ∈ mrg pth f n r [] → bl (pth x) d.path = true := fun d hd => by
   rcases (mrg_mem hd).2 with ⟨z, hz, e⟩ | ⟨z, hz, e⟩
   ·rw [← e]; exact a1 z hz
   ·cases hz
  refine ⟨rise_one i1 hm, fun p => ?_⟩
  show kindOf (one _ _ ++ _) p = _
  rw [kindOf_one, getP_cons]
  by_cases hp : pth x = p
  ·rw [if_pos hp]
   by_cases hk : f (some x) none = 0
   ·rw [if_neg (by simp [hk]), kindOf_none (fun d hd => by rw [← hp]; exact ne_bl (hm d hd))]
    exact hk.symm
   ·rw [if_pos ⟨hp, hk⟩]
    rfl
  ·rw [if_neg hp, if_neg (fun h => hp h.1), i2]
 | n + 1, [], y :: s, hn, ha, hb => by
  obtain ⟨b1, b2⟩ := List.pairwise_cons.1 hb
  obtain ⟨i1, i2⟩ := mrg_ok (f := f) (n := n) (a := []) (b := s) (by simp at hn ⊢; omega) ha b2
  have hm : ∀ d, d ∈ mrg pth f n [] s → bl (pth y) d.path = true := fun d hd => by
   rcases (mrg_mem hd).2 with ⟨z, hz, e⟩ | ⟨z, hz, e⟩
   ·cases hz
   ·rw [← e]; exact b1 z hz
  refine ⟨rise_one i1 hm, fun p => ?_⟩
  show kindOf (one _ _ ++ _) p = _
  rw [kindOf_one, getP_cons]
  by_cases hp : pth y = p
  ·rw [if_pos hp]
   by_cases hk : f none (some y) = 0
   ·rw [if_neg (by simp [hk]), kindOf_none (fun d hd => by rw [← hp]; exact ne_bl (hm d hd))]
    exact hk.symm
   ·rw [if_pos ⟨hp, hk⟩]
    rfl
  ·rw [if_neg hp, if_neg (fun h => hp h.1), i2]
 | n + 1, x :: r, y :: s, hn, ha, hb => by
  obtain ⟨a1, a2⟩ := List.pairwise_cons.1 ha
  obtain ⟨b1, b2⟩ := List.pairwise_cons.1 hb
  simp only [List.length_cons] at hn
  unfold mrg
  by_cases h1 : bl (pth x) (pth y) = true
  ·rw [if_pos h1]
   obtain ⟨i1, i2⟩ := mrg_ok (f := f) (n := n) (a := r) (b := y :: s) (by simp only [List.length_cons]; omega) a2 hb
   have hx : ∀ z, z ∈ y :: s → bl (pth x) (pth z) = true := fun z hz => by
    rcases List.mem_cons.1 hz with rfl | hz
    ·exact h1
    ·exact bl_trans h1 (b1 z hz)
   have hm : ∀ d, d ∈ mrg pth f n r (y :: s) → bl (pth x) d.path = true := fun d hd => by
    rcases (mrg_mem hd).2 with ⟨z, hz, e⟩ | ⟨z, hz, e⟩
    ·rw [← e]; exact a1 z hz
    ·rw [← e]; exact hx z hz
   refine ⟨rise_one i1 hm, fun p => ?_⟩
   rw [kindOf_one, getP_cons (l := r)]
   by_cases hp : pth x = p
   ·rw [if_pos hp, getP_none (l := y :: s) (fun z hz => by rw [← hp]; exact ne_bl (hx z hz))]
    by_cases hk : f (some x) none = 0
    ·rw [if_neg (by simp [hk]), kindOf_none (fun d hd => by rw [← hp]; exact ne_bl (hm d hd))]
     exact hk.symm
    ·rw [if_pos ⟨hp, hk⟩]
     rfl
   ·rw [if_neg hp, if_neg (fun h => hp h.1), i2]
  ·rw [if_neg h1]
   by_cases h2 : bl (pth y) (pth x) = true
   ·rw [if_pos h2]
    obtain ⟨i1, i2⟩ := mrg_ok (f := f) (n := n) (a := x :: r) (b := s) (by simp only [List.length_cons]; omega) ha b2
    have hx : ∀ z, z ∈ x :: r → bl (pth y) (pth z) = true := fun z hz => by
     rcases List.mem_cons.1 hz with rfl | hz
     ·exact h2
     ·exact bl_trans h2 (a1 z hz)
    have hm : ∀ d, d ∈ mrg pth f n (x :: r) s → bl (pth y) d.path = true := fun d hd => by
     rcases (mrg_mem hd).2 with ⟨z, hz, e⟩ | ⟨z, hz, e⟩
     ·rw [← e]; exact hx z hz
     ·rw [← e]; exact b1 z hz
    refine ⟨rise_one i1 hm, fun p => ?_⟩
    rw [kindOf_one, getP_cons (l := s)]
    by_cases hp : pth y = p
    ·rw [if_pos hp, getP_none (l := x :: r) (fun z hz => by rw [← hp]; exact ne_bl (hx z hz))]
     by_cases hk : f none (some y) = 0
     ·rw [if_neg (by simp [hk]), kindOf_none (fun d hd => by rw [← hp]; exact ne_bl (hm d hd))]
      exact hk.symm
     ·rw [if_pos ⟨hp, hk⟩]
      rfl
    ·rw [if_neg hp, if_neg (fun h => hp h.1), i2]
   ·rw [if_neg h2]
    have hxy := bl_eq h1 h2
    obtain ⟨i1, i2⟩ := mrg_ok (f := f) (n := n) (a := r) (b := s) (by omega) a2 b2
    have hm : ∀ d, d ∈ mrg pth f n r s → bl (pth x) d.path = true := fun d hd => by
     rcases (mrg_mem hd).2 with ⟨z, hz, e⟩ | ⟨z, hz, e⟩
     ·rw [← e]; exact a1 z hz
     ·rw [← e, hxy]; exact b1 z hz
    refine ⟨rise_one i1 hm, fun p => ?_⟩
    rw [kindOf_one, getP_cons (l := r), getP_cons (l := s), ← hxy]
    by_cases hp : pth x = p
    ·rw [if_pos hp, if_pos hp]
     by_cases hk : f (some x) (some y) = 0
     ·rw [if_neg (by simp [hk]), kindOf_none (fun d hd => by rw [← hp]; exact ne_bl (hm d hd))]
      exact hk.symm
     ·rw [if_pos ⟨hp, hk⟩]
      rfl
    ·rw [if_neg hp, if_neg hp, if_neg (fun h => hp h.1), i2]
theorem riseD_eq : ∀ {a b : List Dl}, RiseP Dl.path a → RiseP Dl.path b → (∀ e, e ∈ a ↔ e ∈ b) → a = b
 | [], [], _, _, _ => rfl
 | [], y :: s, _, _, h => by have := (h y).2 (by simp); cases this
 | x :: r, [], _, _, h => by have := (h x).1 (by simp); cases this
 | x :: r, y :: s, ha, hb, h => by
  obtain ⟨h1, h2⟩ := List.pairwise_cons.1 ha
  obtain ⟨h3, h4⟩ := List.pairwise_cons.1 hb
  have e : x = y := by
   rcases List.mem_cons.1 ((h x).1 (by simp)) with e | hx
   ·exact e
   ·rcases List.mem_cons.1 ((h y).2 (by simp)) with e | hy
    ·exact e.symm
    ·have := bl_asymm (h3 x hx)
     rw [h1 y hy] at this
     cases this
  subst e
  congr 1
  refine riseD_eq h2 h4 fun z => ?_
  constructor
  ·intro hz
   rcases List.mem_cons.1 ((h z).1 (by simp [hz])) with rfl | hz2
   ·exact absurd rfl (ne_bl (h1 z hz))
   ·exact hz2
  ·intro hz
   rcases List.mem_cons.1 ((h z).2 (by simp [hz])) with rfl | hz2
   ·exact absurd rfl (ne_bl (h3 z hz))
   ·exact hz2
/-- Rows that rise and tell the same of each path are the same. -/
theorem kinds_eq {a b : List Dl} (ha : RiseP Dl.path a) (hb : RiseP Dl.path b) (na : ∀ d, d ∈ a → d.kind ≠ 0) (nb : ∀ d, d ∈ b → d.kind ≠ 0) (h : ∀ p, kindOf a p = kindOf b p) : a = b := by
 have key : ∀ {a b : List Dl}, RiseP Dl.path a → (∀ d, d ∈ a → d.kind ≠ 0) → (∀ p, kindOf a p = kindOf b p) → ∀ d, d ∈ a → d ∈ b := by
  intro a b ha na h d hd
  have h1 := h d.path
  rw [kindOf_mem ha hd] at h1
  unfold kindOf at h1
  cases hg : getP Dl.path b d.path with
  | none => rw [hg] at h1; exact absurd h1 (na d hd)
  | some z =>
   rw [hg] at h1
   obtain ⟨hz, e⟩ := getP_some hg
   have : d = z := by
    obtain ⟨p, k⟩ := d
    obtain ⟨q, j⟩ := z
    have h1 : k = j := h1
    have e : q = p := e
    rw [h1, e]
   rw [this]
   exact hz
 exact riseD_eq ha hb fun d => ⟨key ha na h d, key hb nb (fun p => (h p).symm) d⟩

/-! ### Entries -/
def fE : Option En → Option En → Int
 | some x, some y => if x.meta_ = y.meta_ then 0 else 2
 | some _, none => 3
 | none, some _ => 1
 | none, none => 0
def ents (a b : List En) : List Dl := (entriesS a b ([], 0)).1
theorem ents_mrg (a b : List En) : ents a b = mrg En.path fE (a.length + b.length + 1) a b := by
 have h := walk_mrg (pth := En.path) (f := fE) (a := a) (b := b) (step := stepE a b) ?_ ?_ ?_ (a.length + b.length + 1) 0 0 ([], 0)
 ·exact h
 ·intro s i _
  have h0 : ¬ ((i : Int) < 0) := by omega
  simp only [stepE, if_neg h0, Int.toNat_natCast]
  rfl
 ·intro s k _
  simp [stepE, more, one, fE]
 ·intro s i k _ _
  have h1 : ¬ ((i : Int) < 0) := by omega
  have h2 : ¬ ((k : Int) < 0) := by omega
  simp only [stepE, if_neg h1, if_neg h2, Int.toNat_natCast]
  show (if _ then _ else _ : List Dl × Nat).1 = s.1 ++ one _ (if _ then _ else _)
  split
  ·simp [one]
  ·rfl
theorem ents_ok {a b : List En} (ha : RiseE a) (hb : RiseE b) : RiseP Dl.path (ents a b) ∧ (∀ d, d ∈ ents a b → d.kind ≠ 0) ∧ ∀ p, kindOf (ents a b) p = fE (getP En.path a p) (getP En.path b p) := by
 rw [ents_mrg]
 obtain ⟨h1, h2⟩ := mrg_ok (pth := En.path) (f := fE) (n := a.length + b.length + 1) (Nat.le_succ _) ha hb
 refine ⟨h1, fun d hd => (mrg_mem hd).1, fun p => ?_⟩
 rw [h2]
 cases getP En.path a p <;> cases getP En.path b p <;> rfl
theorem mrg_len {α : Type} {pth : α → Bytes} {f : Option α → Option α → Int} : ∀ {n : Nat} {a b : List α}, (mrg pth f n a b).length ≤ n
 | 0, a, b => Nat.zero_le _
 | n + 1, [], [] => Nat.zero_le _
 | n + 1, x :: r, [] => by
  have := mrg_len (pth := pth) (f := f) (n := n) (a := r) (b := [])
  show (one _ _ ++ _).length ≤ _
  unfold one
  split <;> simp <;> omega
 | n + 1, [], y :: s => by
  have := mrg_len (pth := pth) (f := f) (n := n) (a := []) (b := s)
  show (one _ _ ++ _).length ≤ _
  unfold one
  split <;> simp <;> omega
 | n + 1, x :: r, y :: s => by
  have q1 := mrg_len (pth := pth) (f := f) (n := n) (a := r) (b := y :: s)
  have q2 := mrg_len (pth := pth) (f := f) (n := n) (a := x :: r) (b := s)
  have q3 := mrg_len (pth := pth) (f := f) (n := n) (a := r) (b := s)
  unfold mrg one
  split
  ·split <;> simp <;> omega
  ·split
   ·split <;> simp <;> omega
   ·split <;> simp <;> omega
theorem ents_len (a b : List En) : (ents a b).length ≤ a.length + b.length + 1 := by
 rw [ents_mrg]
 exact mrg_len
theorem ents_kind {a b : List En} (ha : RiseE a) (hb : RiseE b) {d : Dl} (hd : d ∈ ents a b) : d.kind = 1 ∨ d.kind = 2 ∨ d.kind = 3 := by
 obtain ⟨h1, h2, h3⟩ := ents_ok ha hb
 have h4 := h3 d.path
 rw [kindOf_mem h1 hd] at h4
 have h5 := h2 d hd
 rw [h4] at h5 ⊢
 generalize getP En.path a d.path = u at *
 generalize getP En.path b d.path = v at *
 cases u <;> cases v <;> simp [fE] at h5 ⊢
 simp [h5]
theorem ents_self {a : List En} (ha : RiseE a) : ents a a = [] := by
 obtain ⟨h1, h2, h3⟩ := ents_ok ha ha
 refine kinds_eq h1 List.Pairwise.nil h2 (fun d hd => by cases hd) fun p => ?_
 rw [h3]
 cases getP En.path a p with
 | none => rfl
 | some x => simp [fE, kindOf, getP]
end Go.Proofs.YtmgkebghojhocaaGreatDoor

/- Rows of deltas: Entries and Of of the code. No further condition. -/
set_option linter.unusedVariables false
set_option linter.unusedSimpArgs false
namespace Go.Proofs.YtmgkebghojhocaaGreatDoor
open Go.Ab

theorem W_rows {r : Option Nat} {P : Program} {n : Nat} {c : Code} {Q : AX → AF → Mem → Prop} {f : AF} {M : Mem} (hn : M.next = 1) (hM : M.get 0 = some (.cells [.sl 0 [] .full])) (h : W r P n c Q f (rows ([], 0))) : W r P n c Q f M := by
 obtain ⟨k, l⟩ := M
 simp only at hn
 subst hn
 exact W_ghost ((Joint.tokM 0 0 hM rfl (sz' := 2) (.inr rfl)).trans (Joint.le ⟨rfl, fun _ => Sub.refl⟩ (Mem.le_cons rfl (Mem.le_cons rfl (Mem.le_nil rfl))))) h
set_option maxRecDepth 100000 in
set_option maxHeartbeats 8000000 in
theorem entries_ok (a b : List En) (ha : smallE a) (hb : smallE b) : APure Tryz.prog 98 [ensA a .none, ensA b .none] (dlA (ents a b) .none) := by
 refine pure_sub (closed2 (closed_ens a) (closed_ens b)) (closed_dls _) ?_
 refine acalls_of tabOK Tryz.func98 rfl (by decide) (by simp [Tryz.f98]) ?_
 have la := len_map En.av a
 have lb := len_map En.av b
 have kw := walkE_ok a b ha hb
 unfold ents
 have hc := closed_dls (entriesS a b ([], 0)).1
 unfold ensA at *
 repeat' (first | refine W_rows rfl rfl ?_ | refine DW_VI tabs rfl (by first | exact la | exact lb) ?_ | refine DW_box 5 tabOK rfl ?_ | refine DW_olenA tabOK rfl ?_ | refine DW_A tabs rfl ?_ | refine DW_nil ?_ | refine W_A rfl ?_ | refine DW_CM rfl rfl (kw) ?_ ?_)
 rotate_left
 ·intro u M' h
  cases h.1
 rintro u M' ⟨e, rfl⟩
 cases e
 unfold rows dlA at *
 repeat' (first | refine W_rows rfl rfl ?_ | refine DW_box 5 tabOK rfl ?_ | refine DW_olenA tabOK rfl ?_ | refine DW_A tabs rfl ?_ | refine DW_nil ?_ | refine W_A rfl ?_)
 exact ⟨rfl, _, rfl, _, rfl, SubC.untag hc⟩
theorem listO_small {l : List Pr} (hr : Rise l) (hn : l.length < 1000000) (p : Bytes) (w : Int) : smallE (listO l p w).1 := by
 by_cases h : openE l p w = 0
 ·have := listO_short hr (openE_parts h).1 p w
  exact ⟨by omega, this.2⟩
 ·rw [show listO l p w = ([], openE l p w) by unfold listO; rw [if_neg h]]
  exact ⟨by simp, by simp⟩
def ofD (l : List Pr) (dir : Bytes) (u v : Int) : List Dl × Int := if (listO l dir u).2 = 0 then (if (listO l dir v).2 = 0 then (ents (listO l dir u).1 (listO l dir v).1, 0) else ([], (listO l dir v).2)) else ([], (listO l dir u).2)
def dlO (x : List Dl × Int) : AV := .tup [dlA x.1 .none, .int .i64 x.2]
theorem closed_dlO (x : List Dl × Int) : Closed (dlO x) := closed_tup (closed2 (closed_dls _) closed_int)
theorem listO_len (l : List Pr) (p : Bytes) (w : Int) : (listO l p w).1.length ≤ l.length := by
 unfold listO
 split
 ·exact list_len l p w
 ·exact Nat.zero_le _
theorem ofD_len (l : List Pr) (dir : Bytes) (u v : Int) : (ofD l dir u v).1.length ≤ 2 * l.length + 1 := by
 unfold ofD
 split
 ·split
  ·have h1 := listO_len l dir u
   have h2 := listO_len l dir v
   have h3 := ents_len (listO l dir u).1 (listO l dir v).1
   show (ents _ _).length ≤ _
   omega
  ·exact Nat.zero_le _
 ·exact Nat.zero_le _
set_option maxRecDepth 100000 in
set_option maxHeartbeats 8000000 in
theorem of16_ok (t : Tr) (hs : t.all.length < 1000000) (hv : valsB t.all) (dir : Bytes) (hp : dir.length < 1000000) (u v : Int) : APure Tryz.prog 40 [t.av, .str dir, .int .i64 u, .int .i64 v] (dlO (ofD t.all dir u v)) := by
 refine pure_sub (closedL_cons (closed_tr t) (closed3 closed_str closed_int closed_int)) (closed_dlO _) ?_
 refine acalls_of tabOK Tryz.func40 rfl (by decide) (by simp [Tryz.f40]) ?_
 have hr := t.rise
 change Rise t.all at hr
 have l1 := list_ok t (by omega) hv dir hp u
 have l2 := list_ok t (by omega) hv dir hp v
 have s1 := listO_small hr hs dir u
 have s2 := listO_small hr hs dir v
 unfold ofD
 generalize listO t.all dir u = x at *
 generalize listO t.all dir v = y at *
 obtain ⟨a, e⟩ := x
 obtain ⟨b, e2⟩ := y
 have ke := entries_ok a b s1 s2
 unfold lsA at l1 l2
 by_cases h1 : e = 0
 ·subst h1
  by_cases h2 : e2 = 0
  ·subst h2
   rw [if_pos rfl, if_pos rfl]
   have hc := closed_dlO (ents a b, 0)
   unfold dlO at hc
   unfold ensA at *
   unfold Tr.av at *
   repeat' (first | refine DW_A tabs rfl ?_ | refine DW_nil ?_ | refine W_A rfl ?_ | refine DW_C rfl l1 ?_ | refine DW_C rfl l2 ?_ | refine DW_C rfl ke ?_)
   exact ⟨rfl, _, rfl, _, rfl, SubC.of_closed hc⟩
  ·have d2 : (!decide (e2 = 0)) = true := by simp [h2]
   rw [if_pos rfl, if_neg h2]
   unfold ensA at *
   unfold Tr.av at *
   repeat' (first | refine DW_VB tabs rfl d2 ?_ | refine DW_A tabs rfl ?_ | refine DW_nil ?_ | refine W_A rfl ?_ | refine DW_C rfl l1 ?_ | refine DW_C rfl l2 ?_)
   exact ⟨rfl, _, rfl, _, rfl, SubC.tup2 SubC.nil (SubC.of_closed closed_int)⟩
 ·have d1 : (!decide (e = 0)) = true := by simp [h1]
  rw [if_neg h1]
  unfold ensA at *
  unfold Tr.av at *
  repeat' (first | refine DW_VB tabs rfl d1 ?_ | refine DW_A tabs rfl ?_ | refine DW_nil ?_ | refine W_A rfl ?_ | refine DW_C rfl l1 ?_ | refine DW_C rfl l2 ?_)
  exact ⟨rfl, _, rfl, _, rfl, SubC.tup2 SubC.nil (SubC.of_closed closed_int)⟩
end Go.Proofs.YtmgkebghojhocaaGreatDoor
