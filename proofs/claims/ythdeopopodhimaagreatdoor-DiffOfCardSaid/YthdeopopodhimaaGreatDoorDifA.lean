/- Rows of deltas: the walk through two rows, whether metas are the same. No further condition. -/
import Derived.Test.YthdeopopodhimaaGreatDoorV21
import Derived.Test.YthdeopopodhimaaGreatDoorV13
set_option linter.unusedVariables false
set_option linter.unusedSimpArgs false
namespace Go.Proofs.YthdeopopodhimaaGreatDoor
open Go.Ab

def walkF {σ : Type} (na nb : Nat) (pa pb : Nat → Bytes) (step : σ → Int → Int → σ) : Nat → Nat → Nat → σ → σ
  | 0, _, _, s => s
  | n + 1, i, k, s =>
    if na ≤ i ∧ nb ≤ k then s
    else if nb ≤ k ∨ (i < na ∧ bl (pa i) (pb k) = true) then walkF na nb pa pb step n (i + 1) k (step s i (-1))
    else if na ≤ i ∨ bl (pb k) (pa i) = true then walkF na nb pa pb step n i (k + 1) (step s (-1) k)
    else walkF na nb pa pb step n (i + 1) (k + 1) (step s i k)

theorem walkF_1 {σ : Type} {na nb : Nat} {pa pb : Nat → Bytes} {step : σ → Int → Int → σ} {n i k : Nat} {s : σ} (h : i < na) (h2 : nb ≤ k ∨ bl (pa i) (pb k) = true) :
    walkF na nb pa pb step (n + 1) i k s = walkF na nb pa pb step n (i + 1) k (step s i (-1)) := by
  have h3 : ¬ (na ≤ i ∧ nb ≤ k) := by omega
  have h4 : nb ≤ k ∨ (i < na ∧ bl (pa i) (pb k) = true) := h2.imp id fun e => ⟨h, e⟩
  simp only [walkF, if_neg h3, if_pos h4]
theorem walkF_2 {σ : Type} {na nb : Nat} {pa pb : Nat → Bytes} {step : σ → Int → Int → σ} {n i k : Nat} {s : σ} (h : k < nb) (h1 : i < na → bl (pa i) (pb k) = false) (h2 : na ≤ i ∨ bl (pb k) (pa i) = true) :
    walkF na nb pa pb step (n + 1) i k s = walkF na nb pa pb step n i (k + 1) (step s (-1) k) := by
  have h3 : ¬ (na ≤ i ∧ nb ≤ k) := by omega
  have h4 : ¬ (nb ≤ k ∨ (i < na ∧ bl (pa i) (pb k) = true)) := by
    rintro (h5 | ⟨h5, h6⟩)
    · omega
    · rw [h1 h5] at h6; cases h6
  simp only [walkF, if_neg h3, if_neg h4, if_pos h2]
theorem walkF_3 {σ : Type} {na nb : Nat} {pa pb : Nat → Bytes} {step : σ → Int → Int → σ} {n i k : Nat} {s : σ} (h0 : i < na) (h : k < nb) (h1 : bl (pa i) (pb k) = false) (h2 : bl (pb k) (pa i) = false) :
    walkF na nb pa pb step (n + 1) i k s = walkF na nb pa pb step n (i + 1) (k + 1) (step s i k) := by
  have h3 : ¬ (na ≤ i ∧ nb ≤ k) := by omega
  have h4 : ¬ (nb ≤ k ∨ (i < na ∧ bl (pa i) (pb k) = true)) := by
    rintro (h5 | ⟨h5, h6⟩)
    · omega
    · rw [h1] at h6; cases h6
  have h5 : ¬ (na ≤ i ∨ bl (pb k) (pa i) = true) := by
    rintro (h5 | h6)
    · omega
    · rw [h2] at h6; cases h6
  simp only [walkF, if_neg h3, if_neg h4, if_neg h5]
theorem walkF_more {σ : Type} {na nb : Nat} {pa pb : Nat → Bytes} {step : σ → Int → Int → σ} : ∀ {n i k : Nat} {s : σ}, (na - i) + (nb - k) + 1 ≤ n → walkF na nb pa pb step (n + 1) i k s = walkF na nb pa pb step n i k s
  | 0, i, k, s, h => by omega
  | n + 1, i, k, s, h => by
    rw [walkF]
    conv => rhs; rw [walkF]
    split
    · rfl
    · rename_i h0
      split
      · rename_i h1
        by_cases hi : i < na
        · exact walkF_more (by omega)
        · exfalso
          rcases h1 with h1 | h1
          · omega
          · omega
      · rename_i h1
        split
        · exact walkF_more (by omega)
        · exact walkF_more (by omega)
theorem walkF_end {σ : Type} {na nb : Nat} {pa pb : Nat → Bytes} {step : σ → Int → Int → σ} {n i k : Nat} {s : σ} (h : na ≤ i) (h2 : nb ≤ k) : walkF na nb pa pb step (n + 1) i k s = s := by
  simp only [walkF, if_pos (show na ≤ i ∧ nb ≤ k from ⟨h, h2⟩)]

set_option maxRecDepth 100000 in
set_option maxHeartbeats 4000000 in
theorem walk_ok {σ : Type} (S : σ → Mem) (J : σ → Nat → Nat → Prop) (step : σ → Int → Int → σ) (na nb : Nat) (hna : na < 1000000000) (hnb : nb < 1000000000) (pa pb : Nat → Bytes) (fa fb fs : FuncId) (ca cb cs : List AV)
    (ha : ∀ i, i < na → APure Tryz.prog fa (.int .i64 i :: ca) (.str (pa i))) (hb : ∀ i, i < nb → APure Tryz.prog fb (.int .i64 i :: cb) (.str (pb i)))
    (hs1 : ∀ s i k, J s i k → i < na → ACalls Tryz.prog fs (.int .i64 i :: .int .i64 (-1) :: cs) (S s) (fun e M => e = .ret (.tup []) ∧ M = S (step s i (-1))) ∧ J (step s i (-1)) (i + 1) k)
    (hs2 : ∀ s i k, J s i k → k < nb → ACalls Tryz.prog fs (.int .i64 (-1) :: .int .i64 k :: cs) (S s) (fun e M => e = .ret (.tup []) ∧ M = S (step s (-1) k)) ∧ J (step s (-1) k) i (k + 1))
    (hs3 : ∀ s i k, J s i k → i < na → k < nb → ACalls Tryz.prog fs (.int .i64 i :: .int .i64 k :: cs) (S s) (fun e M => e = .ret (.tup []) ∧ M = S (step s i k)) ∧ J (step s i k) (i + 1) (k + 1))
    (s0 : σ) (h0 : J s0 0 0) :
    ACalls Tryz.prog 92 [.int .i64 na, .int .i64 nb, .fn (.func fa) [] ca, .fn (.func fb) [] cb, .fn (.func fs) [] cs] (S s0) (fun e M => e = .ret (.tup []) ∧ M = S (walkF na nb pa pb step (na + nb + 1) 0 0 s0)) := by
  refine acalls_of tabOK Tryz.func92 rfl (by decide) (by simp [Tryz.f92]) ?_
  repeat' (first | refine DW_A tabs rfl ?_ | refine DW_nil ?_ | refine W_A rfl ?_)
  refine W_loop (fun m f N => ∃ (i k : Nat) (s : σ), i ≤ na ∧ k ≤ nb ∧ m = (na - i) + (nb - k) + 1 ∧ J s i k ∧ N = S s ∧ walkF na nb pa pb step m i k s = walkF na nb pa pb step (na + nb + 1) 0 0 s0 ∧
    f = ⟨[(0, .int .i64 na), (1, .int .i64 nb), (2, .fn (.func fa) [] ca), (3, .fn (.func fb) [] cb), (4, .fn (.func fs) [] cs), (10, .int .i64 i), (11, .int .i64 k)], []⟩)
    ⟨0, 0, s0, by omega, by omega, rfl, h0, rfl, by simp, rfl⟩ (Joint.le ?_ (Mem.le_refl _)) ?_
  · skip
    repeat (refine AF.le_cons rfl ?_)
    exact AF.le_nil rfl
  · rintro m f N ⟨i, k, s, hi, hk, rfl, hJ, rfl, hw, rfl⟩
    have hfi : i < na → IntKind.wrap .i64 ((i : Int) + 1) = ((i + 1 : Nat) : Int) := fun h => wrap_succ (by omega)
    have hfk : k < nb → IntKind.wrap .i64 ((k : Int) + 1) = ((k + 1 : Nat) : Int) := fun h => wrap_succ (by omega)
    by_cases h1 : i < na
    · have d1 : decide ((i : Int) < (na : Int)) = true := decide_eq_true (by omega)
      have d2 : decide ((na : Int) ≤ (i : Int)) = false := decide_eq_false (by omega)
      have fi := hfi h1
      have kA := ha i h1
      by_cases h2 : k < nb
      · have d3 : decide ((k : Int) < (nb : Int)) = true := decide_eq_true (by omega)
        have d4 : decide ((nb : Int) ≤ (k : Int)) = false := decide_eq_false (by omega)
        have fk := hfk h2
        have kB := hb k h2
        cases hl : bl (pa i) (pb k)
        · cases hl2 : bl (pb k) (pa i)
          · have ks := (hs3 s i k hJ h1 h2).1
            repeat' (first | refine DW_VB tabs rfl (by first | exact d1 | exact d2 | exact d3 | exact d4 | exact hl | exact hl2) ?_ | refine DW_VI tabs rfl (by first | exact fi | exact fk) ?_ | refine DW_A tabs rfl ?_ | refine DW_nil ?_ | refine W_A rfl ?_ | refine DW_C rfl kA ?_ | refine DW_C rfl kB ?_ | refine DW_CM rfl rfl (ks) ?_ ?_)
            rotate_left
            · intro u M' h
              cases h.1
            rintro u M' ⟨e, rfl⟩
            cases e
            repeat' (first | refine DW_VB tabs rfl (by first | exact d1 | exact d2 | exact d3 | exact d4) ?_ | refine DW_VI tabs rfl (by first | exact fi | exact fk) ?_ | refine DW_A tabs rfl ?_ | refine DW_nil ?_ | refine W_A rfl ?_)
            refine ⟨(na - (i + 1)) + (nb - (k + 1)) + 1, _, _, by omega, ⟨i + 1, k + 1, step s i k, by omega, by omega, rfl, (hs3 s i k hJ h1 h2).2, rfl, ?_, rfl⟩, Joint.le ?_ (Mem.le_refl _)⟩
            · rw [← hw, show na - i + (nb - k) + 1 = (na - (i + 1) + (nb - (k + 1)) + 1) + 1 + 1 from by omega]
              rw [walkF_3 h1 h2 hl hl2]
              exact (walkF_more (by omega)).symm
            · skip
              repeat (refine AF.le_cons rfl ?_)
              exact AF.le_nil rfl
          · have ks := (hs2 s i k hJ h2).1
            repeat' (first | refine DW_VB tabs rfl (by first | exact d1 | exact d2 | exact d3 | exact d4 | exact hl | exact hl2) ?_ | refine DW_VI tabs rfl (by first | exact fi | exact fk) ?_ | refine DW_A tabs rfl ?_ | refine DW_nil ?_ | refine W_A rfl ?_ | refine DW_C rfl kA ?_ | refine DW_C rfl kB ?_ | refine DW_CM rfl rfl (ks) ?_ ?_)
            rotate_left
            · intro u M' h
              cases h.1
            rintro u M' ⟨e, rfl⟩
            cases e
            repeat' (first | refine DW_VB tabs rfl (by first | exact d1 | exact d2 | exact d3 | exact d4) ?_ | refine DW_VI tabs rfl (by first | exact fi | exact fk) ?_ | refine DW_A tabs rfl ?_ | refine DW_nil ?_ | refine W_A rfl ?_)
            refine ⟨(na - i) + (nb - (k + 1)) + 1, _, _, by omega, ⟨i, k + 1, step s (-1) k, by omega, by omega, rfl, (hs2 s i k hJ h2).2, rfl, ?_, rfl⟩, Joint.le ?_ (Mem.le_refl _)⟩
            · rw [← hw, walkF_2 h2 (fun _ => hl) (.inr hl2), show na - i + (nb - k) = na - i + (nb - (k + 1)) + 1 from by omega]
            · skip
              repeat (refine AF.le_cons rfl ?_)
              exact AF.le_nil rfl
        · have ks := (hs1 s i k hJ h1).1
          repeat' (first | refine DW_VB tabs rfl (by first | exact d1 | exact d2 | exact d3 | exact d4 | exact hl) ?_ | refine DW_VI tabs rfl (by first | exact fi | exact fk) ?_ | refine DW_A tabs rfl ?_ | refine DW_nil ?_ | refine W_A rfl ?_ | refine DW_C rfl kA ?_ | refine DW_C rfl kB ?_ | refine DW_CM rfl rfl (ks) ?_ ?_)
          rotate_left
          · intro u M' h
            cases h.1
          rintro u M' ⟨e, rfl⟩
          cases e
          repeat' (first | refine DW_VB tabs rfl (by first | exact d1 | exact d2 | exact d3 | exact d4) ?_ | refine DW_VI tabs rfl (by first | exact fi | exact fk) ?_ | refine DW_A tabs rfl ?_ | refine DW_nil ?_ | refine W_A rfl ?_)
          refine ⟨(na - (i + 1)) + (nb - k) + 1, _, _, by omega, ⟨i + 1, k, step s i (-1), by omega, by omega, rfl, (hs1 s i k hJ h1).2, rfl, ?_, rfl⟩, Joint.le ?_ (Mem.le_refl _)⟩
          · rw [← hw, walkF_1 h1 (.inr hl), show na - i + (nb - k) = na - (i + 1) + (nb - k) + 1 from by omega]
          · skip
            repeat (refine AF.le_cons rfl ?_)
            exact AF.le_nil rfl
      · have d3 : decide ((k : Int) < (nb : Int)) = false := decide_eq_false (by omega)
        have d4 : decide ((nb : Int) ≤ (k : Int)) = true := decide_eq_true (by omega)
        have ks := (hs1 s i k hJ h1).1
        repeat' (first | refine DW_VB tabs rfl (by first | exact d1 | exact d2 | exact d3 | exact d4) ?_ | refine DW_VI tabs rfl fi ?_ | refine DW_A tabs rfl ?_ | refine DW_nil ?_ | refine W_A rfl ?_ | refine DW_C rfl kA ?_ | refine DW_CM rfl rfl (ks) ?_ ?_)
        rotate_left
        · intro u M' h
          cases h.1
        rintro u M' ⟨e, rfl⟩
        cases e
        repeat' (first | refine DW_VB tabs rfl (by first | exact d1 | exact d2 | exact d3 | exact d4) ?_ | refine DW_VI tabs rfl fi ?_ | refine DW_A tabs rfl ?_ | refine DW_nil ?_ | refine W_A rfl ?_)
        refine ⟨(na - (i + 1)) + (nb - k) + 1, _, _, by omega, ⟨i + 1, k, step s i (-1), by omega, by omega, rfl, (hs1 s i k hJ h1).2, rfl, ?_, rfl⟩, Joint.le ?_ (Mem.le_refl _)⟩
        · rw [← hw, walkF_1 h1 (.inl (by omega)), show na - i + (nb - k) = na - (i + 1) + (nb - k) + 1 from by omega]
        · skip
          repeat (refine AF.le_cons rfl ?_)
          exact AF.le_nil rfl
    · have d1 : decide ((i : Int) < (na : Int)) = false := decide_eq_false (by omega)
      have d2 : decide ((na : Int) ≤ (i : Int)) = true := decide_eq_true (by omega)
      by_cases h2 : k < nb
      · have d3 : decide ((k : Int) < (nb : Int)) = true := decide_eq_true (by omega)
        have d4 : decide ((nb : Int) ≤ (k : Int)) = false := decide_eq_false (by omega)
        have fk := hfk h2
        have ks := (hs2 s i k hJ h2).1
        repeat' (first | refine DW_VB tabs rfl (by first | exact d1 | exact d2 | exact d3 | exact d4) ?_ | refine DW_VI tabs rfl fk ?_ | refine DW_A tabs rfl ?_ | refine DW_nil ?_ | refine W_A rfl ?_ | refine DW_CM rfl rfl (ks) ?_ ?_)
        rotate_left
        · intro u M' h
          cases h.1
        rintro u M' ⟨e, rfl⟩
        cases e
        repeat' (first | refine DW_VB tabs rfl (by first | exact d1 | exact d2 | exact d3 | exact d4) ?_ | refine DW_VI tabs rfl fk ?_ | refine DW_A tabs rfl ?_ | refine DW_nil ?_ | refine W_A rfl ?_)
        refine ⟨(na - i) + (nb - (k + 1)) + 1, _, _, by omega, ⟨i, k + 1, step s (-1) k, by omega, by omega, rfl, (hs2 s i k hJ h2).2, rfl, ?_, rfl⟩, Joint.le ?_ (Mem.le_refl _)⟩
        · rw [← hw, walkF_2 h2 (fun h => absurd h h1) (.inl (by omega)), show na - i + (nb - k) = na - i + (nb - (k + 1)) + 1 from by omega]
        · skip
          repeat (refine AF.le_cons rfl ?_)
          exact AF.le_nil rfl
      · have d3 : decide ((k : Int) < (nb : Int)) = false := decide_eq_false (by omega)
        repeat' (first | refine DW_VB tabs rfl (by first | exact d1 | exact d2 | exact d3) ?_ | refine DW_A tabs rfl ?_ | refine DW_nil ?_ | refine W_A rfl ?_)
        refine ⟨rfl, _, rfl, rfl, ?_⟩
        rw [← hw, walkF_end (by omega) (by omega)]

set_option maxRecDepth 100000 in
set_option maxHeartbeats 8000000 in
theorem dEqual_ok (a b : List Int) (ta tb : Tag) (ha : a.length < 1000000000) (hb : b.length < 1000000000) : APure Tryz.prog 124 [iA a ta, iA b tb] (.bool (decide (a = b))) := by
  intro M
  refine acalls_of tabOK Tryz.func124 rfl (by decide) (by simp [Tryz.f124]) ?_
  have la := len_map (fun n => AV.int .i64 n) a
  have lb := len_map (fun n => AV.int .i64 n) b
  unfold iA
  by_cases hl : a.length = b.length
  · have d0 : (!decide ((a.length : Int) = (b.length : Int))) = false := by simp; omega
    repeat' (first | refine DW_VB tabs rfl d0 ?_ | refine DW_VI tabs rfl (by first | exact la | exact lb) ?_ | refine DW_A tabs rfl ?_ | refine DW_nil ?_ | refine W_A rfl ?_ | refine W_draw mixed [0, 1, 4, 5, 2, 3, 6, 7, 8] [.P, .P, .R, .R, .P, .P, .R, .R, .P] rfl rfl (by kernel_rfl) ?_)
    refine W_count a.length (fun i f N => N = M ∧ (a.take i = b.take i) ∧ f = ⟨[(0, .sl 1 (a.map fun n => AV.int .i64 n) ta), (1, .sl 1 (b.map fun n => AV.int .i64 n) tb), (12, .int .i64 (a.length : Int)), (13, .int .i64 (i : Int))], []⟩) (Nat.zero_le _) ⟨rfl, by simp, rfl⟩ (Joint.le ?_ (Mem.le_refl _)) ?_
    · skip
      repeat (refine AF.le_cons rfl ?_)
      exact AF.le_nil rfl
    rintro i f N hi ⟨rfl, hinv, rfl⟩
    by_cases h1 : i < a.length
    · have d1 : decide ((i : Int) < (a.length : Int)) = true := by simp; omega
      have hx : a[i]? = some a[i] := List.getElem?_eq_getElem h1
      have fi := wrap_succ (i := i) (by omega)
      have ht := take_succ hx
      have hm := List.getElem_mem h1
      generalize a[i] = x at hx ht hm
      have hy : b[i]? = some b[i] := List.getElem?_eq_getElem (by omega)
      have ht2 := take_succ hy
      generalize b[i] = y at hy ht2
      cases h2 : decide (x = y)
      · have d2 : (!decide (x = y)) = true := by rw [h2]; rfl
        have e : decide (a = b) = false := by
          rw [decide_eq_false_iff_not]
          rintro rfl
          rw [hx] at hy
          cases hy
          simp at h2
        rw [e]
        repeat' (first | refine DW_VB tabs rfl (by first | exact d1 | exact d2) ?_ | refine DW_VI tabs rfl (by first | exact la | exact lb | exact fi) ?_ | refine DW_A tabs rfl ?_ | refine DW_nil ?_ | refine W_A rfl ?_ | refine DW_ix tabOK rfl (ixN hx) ?_ | refine DW_ix tabOK rfl (ixN hy) ?_ | refine W_draw mixed [0, 1, 4, 5, 2, 3, 6, 7, 8] [.P, .P, .R, .R, .P, .P, .R, .R, .P] rfl rfl (by kernel_rfl) ?_)
        exact ⟨rfl, _, rfl, rfl, rfl⟩
      · have d2 : (!decide (x = y)) = false := by rw [h2]; rfl
        have := of_decide_eq_true h2
        subst this
        repeat' (first | refine DW_VB tabs rfl (by first | exact d1 | exact d2) ?_ | refine DW_VI tabs rfl (by first | exact la | exact lb | exact fi) ?_ | refine DW_A tabs rfl ?_ | refine DW_nil ?_ | refine W_A rfl ?_ | refine DW_ix tabOK rfl (ixN hx) ?_ | refine DW_ix tabOK rfl (ixN hy) ?_ | refine W_draw mixed [0, 1, 4, 5, 2, 3, 6, 7, 8] [.P, .P, .R, .R, .P, .P, .R, .R, .P] rfl rfl (by kernel_rfl) ?_)
        refine ⟨h1, _, _, ⟨rfl, (by rw [ht, ht2, hinv]), rfl⟩, Joint.le ?_ (Mem.le_refl _)⟩
        repeat (refine AF.le_cons rfl ?_)
        exact AF.le_nil rfl
    · have d1 : decide ((i : Int) < (a.length : Int)) = false := by simp; omega
      obtain rfl : i = a.length := by omega
      have e : a = b := by
        rw [List.take_length, hl, List.take_length] at hinv
        exact hinv
      have e : decide (a = b) = true := decide_eq_true e
      rw [e]
      repeat' (first | refine DW_VB tabs rfl d1 ?_ | refine DW_VI tabs rfl (by first | exact la | exact lb) ?_ | refine DW_A tabs rfl ?_ | refine DW_nil ?_ | refine W_A rfl ?_ | refine W_draw mixed [0, 1, 4, 5, 2, 3, 6, 7, 8] [.P, .P, .R, .R, .P, .P, .R, .R, .P] rfl rfl (by kernel_rfl) ?_)
      exact ⟨rfl, _, rfl, rfl, rfl⟩
  · have d0 : (!decide ((a.length : Int) = (b.length : Int))) = true := by simp; omega
    have e : decide (a = b) = false := by
      rw [decide_eq_false_iff_not]
      rintro rfl
      exact hl rfl
    rw [e]
    repeat' (first | refine DW_VB tabs rfl d0 ?_ | refine DW_VI tabs rfl (by first | exact la | exact lb) ?_ | refine DW_A tabs rfl ?_ | refine DW_nil ?_ | refine W_A rfl ?_ | refine W_draw mixed [0, 1, 4, 5, 2, 3, 6, 7, 8] [.P, .P, .R, .R, .P, .P, .R, .R, .P] rfl rfl (by kernel_rfl) ?_)
    exact ⟨rfl, _, rfl, rfl, rfl⟩
set_option maxRecDepth 100000 in
set_option maxHeartbeats 8000000 in
theorem dSame_ok (m k : Mt) (hm : m.ch.length < 1000000) (hk : k.ch.length < 1000000) : APure Tryz.prog 96 [m.av, k.av] (.bool (decide (m = k))) := by
  intro M
  refine acalls_of tabOK Tryz.func96 rfl (by decide) (by simp [Tryz.f96]) ?_
  have ki := dEqual_ok m.ch k.ch .none .none (by omega) (by omega)
  cases d1 : decide (m.size = k.size)
  · rw [decide_eq_false (p := m = k) (by rintro rfl; simp at d1)]
    repeat' (first | refine DW_VB tabs rfl d1 ?_ | refine DW_A tabs rfl ?_ | refine DW_nil ?_ | refine W_A rfl ?_)
    exact ⟨rfl, _, rfl, rfl, rfl⟩
  · cases d2 : decide (m.mode = k.mode)
    · rw [decide_eq_false (p := m = k) (by rintro rfl; simp at d2)]
      repeat' (first | refine DW_VB tabs rfl (by first | exact d1 | exact d2) ?_ | refine DW_A tabs rfl ?_ | refine DW_nil ?_ | refine W_A rfl ?_)
      exact ⟨rfl, _, rfl, rfl, rfl⟩
    · have e : decide (m = k) = decide (m.ch = k.ch) := by
        rw [decide_eq_decide, mt_eq]
        simp at d1 d2
        simp [d1, d2]
      rw [e]
      repeat' (first | refine DW_VB tabs rfl (by first | exact d1 | exact d2) ?_ | refine DW_A tabs rfl ?_ | refine DW_nil ?_ | refine W_A rfl ?_ | refine DW_C rfl ki ?_)
      exact ⟨rfl, _, rfl, rfl, rfl⟩

end Go.Proofs.YthdeopopodhimaaGreatDoor
