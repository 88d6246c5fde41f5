/- A step of the proof that the law holds: functions of the program, each shown to compute what its text says. No further condition. -/
import Derived.Test.YteimhnedflbkmaaT0
namespace Go.Proofs.Yteimhnedflbkmaa
open Go.Ab

def walkF {σ : Type} (na nb : Nat) (pa pb : Nat → Bytes) (step : σ → Int → Int → σ) : Nat → Nat → Nat → σ → σ
  | 0, _, _, s => s
  | n + 1, i, k, s =>
    if na ≤ i ∧ nb ≤ k then s
    else if nb ≤ k ∨ (i < na ∧ Op.bytesLess (pa i) (pb k) = true) then walkF na nb pa pb step n (i + 1) k (step s i (-1))
    else if na ≤ i ∨ Op.bytesLess (pb k) (pa i) = true then walkF na nb pa pb step n i (k + 1) (step s (-1) k)
    else walkF na nb pa pb step n (i + 1) (k + 1) (step s i k)

theorem walkF_1 {σ : Type} {na nb : Nat} {pa pb : Nat → Bytes} {step : σ → Int → Int → σ} {n i k : Nat} {s : σ} (h : i < na) (h2 : nb ≤ k ∨ Op.bytesLess (pa i) (pb k) = true) :
    walkF na nb pa pb step (n + 1) i k s = walkF na nb pa pb step n (i + 1) k (step s i (-1)) := by
  have h3 : ¬ (na ≤ i ∧ nb ≤ k) := by omega
  have h4 : nb ≤ k ∨ (i < na ∧ Op.bytesLess (pa i) (pb k) = true) := h2.imp id fun e => ⟨h, e⟩
  simp only [walkF, if_neg h3, if_pos h4]
theorem walkF_2 {σ : Type} {na nb : Nat} {pa pb : Nat → Bytes} {step : σ → Int → Int → σ} {n i k : Nat} {s : σ} (h : k < nb) (h1 : i < na → Op.bytesLess (pa i) (pb k) = false) (h2 : na ≤ i ∨ Op.bytesLess (pb k) (pa i) = true) :
    walkF na nb pa pb step (n + 1) i k s = walkF na nb pa pb step n i (k + 1) (step s (-1) k) := by
  have h3 : ¬ (na ≤ i ∧ nb ≤ k) := by omega
  have h4 : ¬ (nb ≤ k ∨ (i < na ∧ Op.bytesLess (pa i) (pb k) = true)) := by
    rintro (h5 | ⟨h5, h6⟩)
    · omega
    · rw [h1 h5] at h6; cases h6
  simp only [walkF, if_neg h3, if_neg h4, if_pos h2]
theorem walkF_3 {σ : Type} {na nb : Nat} {pa pb : Nat → Bytes} {step : σ → Int → Int → σ} {n i k : Nat} {s : σ} (h0 : i < na) (h : k < nb) (h1 : Op.bytesLess (pa i) (pb k) = false) (h2 : Op.bytesLess (pb k) (pa i) = false) :
    walkF na nb pa pb step (n + 1) i k s = walkF na nb pa pb step n (i + 1) (k + 1) (step s i k) := by
  have h3 : ¬ (na ≤ i ∧ nb ≤ k) := by omega
  have h4 : ¬ (nb ≤ k ∨ (i < na ∧ Op.bytesLess (pa i) (pb k) = true)) := by
    rintro (h5 | ⟨h5, h6⟩)
    · omega
    · rw [h1] at h6; cases h6
  have h5 : ¬ (na ≤ i ∨ Op.bytesLess (pb k) (pa i) = true) := by
    rintro (h5 | h6)
    · omega
    · rw [h2] at h6; cases h6
  simp only [walkF, if_neg h3, if_neg h4, if_neg h5]
theorem walkF_more {σ : Type} {na nb : Nat} {pa pb : Nat → Bytes} {step : σ → Int → Int → σ} : ∀ {n i k : Nat} {s : σ}, (na - i) + (nb - k) + 1 ≤ n → walkF na nb pa pb step (n + 1) i k s = walkF na nb pa pb step n i k s
  | 0, i, k, s, h => by omega
  | n + 1, i, k, s, h => by
    rw [walkF]
    conv => rhs; rw [walkF]
    split
    · rfl
    · rename_i h0
      split
      · rename_i h1
        by_cases hi : i < na
        · exact walkF_more (by omega)
        · exfalso
          rcases h1 with h1 | h1
          · omega
          · omega
      · rename_i h1
        split
        · exact walkF_more (by omega)
        · exact walkF_more (by omega)
theorem walkF_end {σ : Type} {na nb : Nat} {pa pb : Nat → Bytes} {step : σ → Int → Int → σ} {n i k : Nat} {s : σ} (h : na ≤ i) (h2 : nb ≤ k) : walkF na nb pa pb step (n + 1) i k s = s := by
  simp only [walkF, if_pos (show na ≤ i ∧ nb ≤ k from ⟨h, h2⟩)]

theorem walk_ok {σ : Type} (S : σ → Mem) (J : σ → Nat → Nat → Prop) (step : σ → Int → Int → σ) (na nb : Nat) (hna : na < 1000000000) (hnb : nb < 1000000000) (pa pb : Nat → Bytes) (fa fb fs : FuncId) (ca cb cs : List AV)
    (ha : ∀ i, i < na → APure Try.prog fa (.int .i64 i :: ca) (.str (pa i))) (hb : ∀ i, i < nb → APure Try.prog fb (.int .i64 i :: cb) (.str (pb i)))
    (hs1 : ∀ s i k, J s i k → i < na → ACalls Try.prog fs (.int .i64 i :: .int .i64 (-1) :: cs) (S s) (fun e M => e = .ret (.tup []) ∧ M = S (step s i (-1))) ∧ J (step s i (-1)) (i + 1) k)
    (hs2 : ∀ s i k, J s i k → k < nb → ACalls Try.prog fs (.int .i64 (-1) :: .int .i64 k :: cs) (S s) (fun e M => e = .ret (.tup []) ∧ M = S (step s (-1) k)) ∧ J (step s (-1) k) i (k + 1))
    (hs3 : ∀ s i k, J s i k → i < na → k < nb → ACalls Try.prog fs (.int .i64 i :: .int .i64 k :: cs) (S s) (fun e M => e = .ret (.tup []) ∧ M = S (step s i k)) ∧ J (step s i k) (i + 1) (k + 1))
    (s0 : σ) (h0 : J s0 0 0) :
    ACalls Try.prog 16 [.int .i64 na, .int .i64 nb, .fn (.func fa) [] ca, .fn (.func fb) [] cb, .fn (.func fs) [] cs] (S s0) (fun e M => e = .ret (.tup []) ∧ M = S (walkF na nb pa pb step (na + nb + 1) 0 0 s0)) := by
  refine acalls_of tabOK Try.func16 rfl (by decide) (by simp [Try.f16]) ?_
  repeat' (first
        | (show DW _ _ _ _ _ _ _ _; first
          | refine DW_Q tabs rfl rfl rfl rfl ?_
          | refine DW_nil ?_
          | refine DW_R tabOK rfl rfl rfl rfl rfl ?_
          | refine DW_E tabOK rfl rfl rfl rfl rfl ?_
          | refine DW_E0 tabOK rfl rfl rfl rfl rfl ?_
          | refine DW_no rfl rfl rfl ?_
          | refine DW_no0 rfl rfl rfl ?_
          | refine DW_lits tabOK rfl rfl rfl rfl rfl rfl rfl rfl rfl rfl rfl rfl rfl ?_
          | refine DW_append_own tabOK rfl rfl rfl rfl rfl rfl rfl rfl rfl rfl rfl rfl rfl rfl rfl (by simp; omega) (by simp; omega) ?_)
        | (show W _ _ _ _ _ _; first
          | refine W_seq ?_
          | refine W_text rfl (fun _ _ _ h => h) ?_
          | refine W_block ?_
          | refine W_skip ?_
          | refine W_exit ?_
          | refine W_ret ?_
          | refine W_true rfl ?_
          | refine W_false rfl ?_
          | refine W_cond rfl (fun _ => ?_) (fun _ => ?_)))
  refine W_loop (fun m f N => ∃ (i k : Nat) (s : σ), i ≤ na ∧ k ≤ nb ∧ m = (na - i) + (nb - k) + 1 ∧ J s i k ∧ N = S s ∧ walkF na nb pa pb step m i k s = walkF na nb pa pb step (na + nb + 1) 0 0 s0 ∧
    f = ⟨[(0, .int .i64 na), (1, .int .i64 nb), (2, .fn (.func fa) [] ca), (3, .fn (.func fb) [] cb), (4, .fn (.func fs) [] cs), (10, .int .i64 i), (11, .int .i64 k)], []⟩)
    ⟨0, 0, s0, by omega, by omega, rfl, h0, rfl, by simp, rfl⟩ (Joint.le ?_ (Mem.le_refl _)) ?_
  · skip
    repeat (refine AF.le_cons rfl ?_)
    exact AF.le_nil rfl
  · rintro m f N ⟨i, k, s, hi, hk, rfl, hJ, rfl, hw, rfl⟩
    have hfi : i < na → IntKind.wrap .i64 ((i : Int) + 1) = ((i + 1 : Nat) : Int) := fun h => wrap_succ (by omega)
    have hfk : k < nb → IntKind.wrap .i64 ((k : Int) + 1) = ((k + 1 : Nat) : Int) := fun h => wrap_succ (by omega)
    by_cases h1 : i < na
    · have d1 : decide ((i : Int) < (na : Int)) = true := by simp; omega
      have d2 : decide ((na : Int) ≤ (i : Int)) = false := by simp; omega
      have fi := hfi h1
      by_cases h2 : k < nb
      · have d3 : decide ((k : Int) < (nb : Int)) = true := by simp; omega
        have d4 : decide ((nb : Int) ≤ (k : Int)) = false := by simp; omega
        have fk := hfk h2
        repeat' (first
              | (show DW _ _ _ _ _ _ _ _; first
                | refine DW_V tabs rfl rfl rfl rfl (congrArg AV.bool d1) ?_
                | refine DW_V tabs rfl rfl rfl rfl (congrArg AV.bool d2) ?_
                | refine DW_V tabs rfl rfl rfl rfl (congrArg AV.bool d3) ?_
                | refine DW_V tabs rfl rfl rfl rfl (congrArg AV.bool d4) ?_
                | refine DW_V tabs rfl rfl rfl rfl (congrArg (AV.int _) fi) ?_
                | refine DW_V tabs rfl rfl rfl rfl (congrArg (AV.int _) fk) ?_
                | refine DW_Q tabs rfl rfl rfl rfl ?_
                | refine DW_nil ?_
                | refine DW_R tabOK rfl rfl rfl rfl rfl ?_
                | refine DW_E tabOK rfl rfl rfl rfl rfl ?_
                | refine DW_E0 tabOK rfl rfl rfl rfl rfl ?_
                | refine DW_no rfl rfl rfl ?_
                | refine DW_no0 rfl rfl rfl ?_
                | refine DW_lits tabOK rfl rfl rfl rfl rfl rfl rfl rfl rfl rfl rfl rfl rfl ?_
                | refine DW_append_own tabOK rfl rfl rfl rfl rfl rfl rfl rfl rfl rfl rfl rfl rfl rfl rfl (by simp; omega) (by simp; omega) ?_)
              | (show W _ _ _ _ _ _; first
                | refine W_seq ?_
                | refine W_text rfl (fun _ _ _ h => h) ?_
                | refine W_block ?_
                | refine W_skip ?_
                | refine W_exit ?_
                | refine W_ret ?_
                | refine W_true rfl ?_
                | refine W_false rfl ?_
                | refine W_cond rfl (fun _ => ?_) (fun _ => ?_)))
        refine DW_pure rfl rfl rfl rfl rfl (ha i h1) ?_
        repeat (first
              | refine DW_Q tabs rfl rfl rfl rfl ?_
              | refine DW_R tabOK rfl rfl rfl rfl rfl ?_
              | refine DW_E tabOK rfl rfl rfl rfl rfl ?_
              | refine DW_E0 tabOK rfl rfl rfl rfl rfl ?_
              | refine DW_no rfl rfl rfl ?_
              | refine DW_no0 rfl rfl rfl ?_)
        refine DW_pure rfl rfl rfl rfl rfl (hb k h2) ?_
        repeat' (first
              | (show DW _ _ _ _ _ _ _ _; first
                | refine DW_V tabs rfl rfl rfl rfl (congrArg AV.bool d1) ?_
                | refine DW_V tabs rfl rfl rfl rfl (congrArg AV.bool d2) ?_
                | refine DW_V tabs rfl rfl rfl rfl (congrArg AV.bool d3) ?_
                | refine DW_V tabs rfl rfl rfl rfl (congrArg AV.bool d4) ?_
                | refine DW_V tabs rfl rfl rfl rfl (congrArg (AV.int _) fi) ?_
                | refine DW_V tabs rfl rfl rfl rfl (congrArg (AV.int _) fk) ?_
                | refine DW_Q tabs rfl rfl rfl rfl ?_
                | refine DW_nil ?_
                | refine DW_R tabOK rfl rfl rfl rfl rfl ?_
                | refine DW_E tabOK rfl rfl rfl rfl rfl ?_
                | refine DW_E0 tabOK rfl rfl rfl rfl rfl ?_
                | refine DW_no rfl rfl rfl ?_
                | refine DW_no0 rfl rfl rfl ?_
                | refine DW_lits tabOK rfl rfl rfl rfl rfl rfl rfl rfl rfl rfl rfl rfl rfl ?_
                | refine DW_append_own tabOK rfl rfl rfl rfl rfl rfl rfl rfl rfl rfl rfl rfl rfl rfl rfl (by simp; omega) (by simp; omega) ?_)
              | (show W _ _ _ _ _ _; first
                | refine W_seq ?_
                | refine W_text rfl (fun _ _ _ h => h) ?_
                | refine W_block ?_
                | refine W_skip ?_
                | refine W_exit ?_
                | refine W_ret ?_
                | refine W_true rfl ?_
                | refine W_false rfl ?_
                | refine W_cond rfl (fun _ => ?_) (fun _ => ?_)))
        · rename_i hl
          refine DW_call rfl rfl rfl rfl rfl rfl (hs1 s i k hJ h1).1 ?_ ?_
          · rintro u M' ⟨e, rfl⟩
            cases e
            repeat' (first
                  | (show DW _ _ _ _ _ _ _ _; first
                    | refine DW_V tabs rfl rfl rfl rfl (congrArg AV.bool d1) ?_
                    | refine DW_V tabs rfl rfl rfl rfl (congrArg AV.bool d2) ?_
                    | refine DW_V tabs rfl rfl rfl rfl (congrArg AV.bool d3) ?_
                    | refine DW_V tabs rfl rfl rfl rfl (congrArg AV.bool d4) ?_
                    | refine DW_V tabs rfl rfl rfl rfl (congrArg (AV.int _) fi) ?_
                    | refine DW_V tabs rfl rfl rfl rfl (congrArg (AV.int _) fk) ?_
                    | refine DW_Q tabs rfl rfl rfl rfl ?_
                    | refine DW_nil ?_
                    | refine DW_R tabOK rfl rfl rfl rfl rfl ?_
                    | refine DW_E tabOK rfl rfl rfl rfl rfl ?_
                    | refine DW_E0 tabOK rfl rfl rfl rfl rfl ?_
                    | refine DW_no rfl rfl rfl ?_
                    | refine DW_no0 rfl rfl rfl ?_
                    | refine DW_lits tabOK rfl rfl rfl rfl rfl rfl rfl rfl rfl rfl rfl rfl rfl ?_
                    | refine DW_append_own tabOK rfl rfl rfl rfl rfl rfl rfl rfl rfl rfl rfl rfl rfl rfl rfl (by simp; omega) (by simp; omega) ?_)
                  | (show W _ _ _ _ _ _; first
                    | refine W_seq ?_
                    | refine W_text rfl (fun _ _ _ h => h) ?_
                    | refine W_block ?_
                    | refine W_skip ?_
                    | refine W_exit ?_
                    | refine W_ret ?_
                    | refine W_true rfl ?_
                    | refine W_false rfl ?_
                    | refine W_cond rfl (fun _ => ?_) (fun _ => ?_)))
            refine ⟨(na - (i + 1)) + (nb - k) + 1, _, _, by omega, ⟨i + 1, k, step s i (-1), by omega, by omega, rfl, (hs1 s i k hJ h1).2, rfl, ?_, rfl⟩, Joint.le ?_ (Mem.le_refl _)⟩
            · rw [← hw, walkF_1 h1 (.inr hl), show na - i + (nb - k) = na - (i + 1) + (nb - k) + 1 from by omega]
            · skip
              repeat (refine AF.le_cons rfl ?_)
              exact AF.le_nil rfl
          · rintro u M' ⟨e, _⟩; cases e
        · rename_i hl
          refine DW_pure rfl rfl rfl rfl rfl (hb k h2) ?_
          repeat (first
                | refine DW_Q tabs rfl rfl rfl rfl ?_
                | refine DW_R tabOK rfl rfl rfl rfl rfl ?_
                | refine DW_E tabOK rfl rfl rfl rfl rfl ?_
                | refine DW_E0 tabOK rfl rfl rfl rfl rfl ?_
                | refine DW_no rfl rfl rfl ?_
                | refine DW_no0 rfl rfl rfl ?_)
          refine DW_pure rfl rfl rfl rfl rfl (ha i h1) ?_
          repeat' (first
                | (show DW _ _ _ _ _ _ _ _; first
                  | refine DW_V tabs rfl rfl rfl rfl (congrArg AV.bool d1) ?_
                  | refine DW_V tabs rfl rfl rfl rfl (congrArg AV.bool d2) ?_
                  | refine DW_V tabs rfl rfl rfl rfl (congrArg AV.bool d3) ?_
                  | refine DW_V tabs rfl rfl rfl rfl (congrArg AV.bool d4) ?_
                  | refine DW_V tabs rfl rfl rfl rfl (congrArg (AV.int _) fi) ?_
                  | refine DW_V tabs rfl rfl rfl rfl (congrArg (AV.int _) fk) ?_
                  | refine DW_Q tabs rfl rfl rfl rfl ?_
                  | refine DW_nil ?_
                  | refine DW_R tabOK rfl rfl rfl rfl rfl ?_
                  | refine DW_E tabOK rfl rfl rfl rfl rfl ?_
                  | refine DW_E0 tabOK rfl rfl rfl rfl rfl ?_
                  | refine DW_no rfl rfl rfl ?_
                  | refine DW_no0 rfl rfl rfl ?_
                  | refine DW_lits tabOK rfl rfl rfl rfl rfl rfl rfl rfl rfl rfl rfl rfl rfl ?_
                  | refine DW_append_own tabOK rfl rfl rfl rfl rfl rfl rfl rfl rfl rfl rfl rfl rfl rfl rfl (by simp; omega) (by simp; omega) ?_)
                | (show W _ _ _ _ _ _; first
                  | refine W_seq ?_
                  | refine W_text rfl (fun _ _ _ h => h) ?_
                  | refine W_block ?_
                  | refine W_skip ?_
                  | refine W_exit ?_
                  | refine W_ret ?_
                  | refine W_true rfl ?_
                  | refine W_false rfl ?_
                  | refine W_cond rfl (fun _ => ?_) (fun _ => ?_)))
          · rename_i hl2
            refine DW_call rfl rfl rfl rfl rfl rfl (hs2 s i k hJ h2).1 ?_ ?_
            · rintro u M' ⟨e, rfl⟩
              cases e
              repeat' (first
                    | (show DW _ _ _ _ _ _ _ _; first
                      | refine DW_V tabs rfl rfl rfl rfl (congrArg AV.bool d1) ?_
                      | refine DW_V tabs rfl rfl rfl rfl (congrArg AV.bool d2) ?_
                      | refine DW_V tabs rfl rfl rfl rfl (congrArg AV.bool d3) ?_
                      | refine DW_V tabs rfl rfl rfl rfl (congrArg AV.bool d4) ?_
                      | refine DW_V tabs rfl rfl rfl rfl (congrArg (AV.int _) fi) ?_
                      | refine DW_V tabs rfl rfl rfl rfl (congrArg (AV.int _) fk) ?_
                      | refine DW_Q tabs rfl rfl rfl rfl ?_
                      | refine DW_nil ?_
                      | refine DW_R tabOK rfl rfl rfl rfl rfl ?_
                      | refine DW_E tabOK rfl rfl rfl rfl rfl ?_
                      | refine DW_E0 tabOK rfl rfl rfl rfl rfl ?_
                      | refine DW_no rfl rfl rfl ?_
                      | refine DW_no0 rfl rfl rfl ?_
                      | refine DW_lits tabOK rfl rfl rfl rfl rfl rfl rfl rfl rfl rfl rfl rfl rfl ?_
                      | refine DW_append_own tabOK rfl rfl rfl rfl rfl rfl rfl rfl rfl rfl rfl rfl rfl rfl rfl (by simp; omega) (by simp; omega) ?_)
                    | (show W _ _ _ _ _ _; first
                      | refine W_seq ?_
                      | refine W_text rfl (fun _ _ _ h => h) ?_
                      | refine W_block ?_
                      | refine W_skip ?_
                      | refine W_exit ?_
                      | refine W_ret ?_
                      | refine W_true rfl ?_
                      | refine W_false rfl ?_
                      | refine W_cond rfl (fun _ => ?_) (fun _ => ?_)))
              refine ⟨(na - i) + (nb - (k + 1)) + 1, _, _, by omega, ⟨i, k + 1, step s (-1) k, by omega, by omega, rfl, (hs2 s i k hJ h2).2, rfl, ?_, rfl⟩, Joint.le ?_ (Mem.le_refl _)⟩
              · rw [← hw, walkF_2 h2 (fun _ => hl) (.inr hl2), show na - i + (nb - k) = na - i + (nb - (k + 1)) + 1 from by omega]
              · skip
                repeat (refine AF.le_cons rfl ?_)
                exact AF.le_nil rfl
            · rintro u M' ⟨e, _⟩; cases e
          · rename_i hl2
            refine DW_call rfl rfl rfl rfl rfl rfl (hs3 s i k hJ h1 h2).1 ?_ ?_
            · rintro u M' ⟨e, rfl⟩
              cases e
              repeat' (first
                    | (show DW _ _ _ _ _ _ _ _; first
                      | refine DW_V tabs rfl rfl rfl rfl (congrArg AV.bool d1) ?_
                      | refine DW_V tabs rfl rfl rfl rfl (congrArg AV.bool d2) ?_
                      | refine DW_V tabs rfl rfl rfl rfl (congrArg AV.bool d3) ?_
                      | refine DW_V tabs rfl rfl rfl rfl (congrArg AV.bool d4) ?_
                      | refine DW_V tabs rfl rfl rfl rfl (congrArg (AV.int _) fi) ?_
                      | refine DW_V tabs rfl rfl rfl rfl (congrArg (AV.int _) fk) ?_
                      | refine DW_Q tabs rfl rfl rfl rfl ?_
                      | refine DW_nil ?_
                      | refine DW_R tabOK rfl rfl rfl rfl rfl ?_
                      | refine DW_E tabOK rfl rfl rfl rfl rfl ?_
                      | refine DW_E0 tabOK rfl rfl rfl rfl rfl ?_
                      | refine DW_no rfl rfl rfl ?_
                      | refine DW_no0 rfl rfl rfl ?_
                      | refine DW_lits tabOK rfl rfl rfl rfl rfl rfl rfl rfl rfl rfl rfl rfl rfl ?_
                      | refine DW_append_own tabOK rfl rfl rfl rfl rfl rfl rfl rfl rfl rfl rfl rfl rfl rfl rfl (by simp; omega) (by simp; omega) ?_)
                    | (show W _ _ _ _ _ _; first
                      | refine W_seq ?_
                      | refine W_text rfl (fun _ _ _ h => h) ?_
                      | refine W_block ?_
                      | refine W_skip ?_
                      | refine W_exit ?_
                      | refine W_ret ?_
                      | refine W_true rfl ?_
                      | refine W_false rfl ?_
                      | refine W_cond rfl (fun _ => ?_) (fun _ => ?_)))
              refine ⟨(na - (i + 1)) + (nb - (k + 1)) + 1, _, _, by omega, ⟨i + 1, k + 1, step s i k, by omega, by omega, rfl, (hs3 s i k hJ h1 h2).2, rfl, ?_, rfl⟩, Joint.le ?_ (Mem.le_refl _)⟩
              · rw [← hw, show na - i + (nb - k) + 1 = (na - (i + 1) + (nb - (k + 1)) + 1) + 1 + 1 from by omega]
                rw [walkF_3 h1 h2 hl hl2]
                exact (walkF_more (by omega)).symm
              · skip
                repeat (refine AF.le_cons rfl ?_)
                exact AF.le_nil rfl
            · rintro u M' ⟨e, _⟩; cases e
      · have d3 : decide ((k : Int) < (nb : Int)) = false := by simp; omega
        have d4 : decide ((nb : Int) ≤ (k : Int)) = true := by simp; omega
        repeat' (first
              | (show DW _ _ _ _ _ _ _ _; first
                | refine DW_V tabs rfl rfl rfl rfl (congrArg AV.bool d1) ?_
                | refine DW_V tabs rfl rfl rfl rfl (congrArg AV.bool d2) ?_
                | refine DW_V tabs rfl rfl rfl rfl (congrArg AV.bool d3) ?_
                | refine DW_V tabs rfl rfl rfl rfl (congrArg AV.bool d4) ?_
                | refine DW_V tabs rfl rfl rfl rfl (congrArg (AV.int _) fi) ?_
                | refine DW_Q tabs rfl rfl rfl rfl ?_
                | refine DW_nil ?_
                | refine DW_R tabOK rfl rfl rfl rfl rfl ?_
                | refine DW_E tabOK rfl rfl rfl rfl rfl ?_
                | refine DW_E0 tabOK rfl rfl rfl rfl rfl ?_
                | refine DW_no rfl rfl rfl ?_
                | refine DW_no0 rfl rfl rfl ?_
                | refine DW_lits tabOK rfl rfl rfl rfl rfl rfl rfl rfl rfl rfl rfl rfl rfl ?_
                | refine DW_append_own tabOK rfl rfl rfl rfl rfl rfl rfl rfl rfl rfl rfl rfl rfl rfl rfl (by simp; omega) (by simp; omega) ?_)
              | (show W _ _ _ _ _ _; first
                | refine W_seq ?_
                | refine W_text rfl (fun _ _ _ h => h) ?_
                | refine W_block ?_
                | refine W_skip ?_
                | refine W_exit ?_
                | refine W_ret ?_
                | refine W_true rfl ?_
                | refine W_false rfl ?_
                | refine W_cond rfl (fun _ => ?_) (fun _ => ?_)))
        refine DW_call rfl rfl rfl rfl rfl rfl (hs1 s i k hJ h1).1 ?_ ?_
        · rintro u M' ⟨e, rfl⟩
          cases e
          repeat' (first
                | (show DW _ _ _ _ _ _ _ _; first
                  | refine DW_V tabs rfl rfl rfl rfl (congrArg AV.bool d1) ?_
                  | refine DW_V tabs rfl rfl rfl rfl (congrArg AV.bool d2) ?_
                  | refine DW_V tabs rfl rfl rfl rfl (congrArg AV.bool d3) ?_
                  | refine DW_V tabs rfl rfl rfl rfl (congrArg AV.bool d4) ?_
                  | refine DW_V tabs rfl rfl rfl rfl (congrArg (AV.int _) fi) ?_
                  | refine DW_Q tabs rfl rfl rfl rfl ?_
                  | refine DW_nil ?_
                  | refine DW_R tabOK rfl rfl rfl rfl rfl ?_
                  | refine DW_E tabOK rfl rfl rfl rfl rfl ?_
                  | refine DW_E0 tabOK rfl rfl rfl rfl rfl ?_
                  | refine DW_no rfl rfl rfl ?_
                  | refine DW_no0 rfl rfl rfl ?_
                  | refine DW_lits tabOK rfl rfl rfl rfl rfl rfl rfl rfl rfl rfl rfl rfl rfl ?_
                  | refine DW_append_own tabOK rfl rfl rfl rfl rfl rfl rfl rfl rfl rfl rfl rfl rfl rfl rfl (by simp; omega) (by simp; omega) ?_)
                | (show W _ _ _ _ _ _; first
                  | refine W_seq ?_
                  | refine W_text rfl (fun _ _ _ h => h) ?_
                  | refine W_block ?_
                  | refine W_skip ?_
                  | refine W_exit ?_
                  | refine W_ret ?_
                  | refine W_true rfl ?_
                  | refine W_false rfl ?_
                  | refine W_cond rfl (fun _ => ?_) (fun _ => ?_)))
          refine ⟨(na - (i + 1)) + (nb - k) + 1, _, _, by omega, ⟨i + 1, k, step s i (-1), by omega, by omega, rfl, (hs1 s i k hJ h1).2, rfl, ?_, rfl⟩, Joint.le ?_ (Mem.le_refl _)⟩
          · rw [← hw, walkF_1 h1 (.inl (by omega)), show na - i + (nb - k) = na - (i + 1) + (nb - k) + 1 from by omega]
          · skip
            repeat (refine AF.le_cons rfl ?_)
            exact AF.le_nil rfl
        · rintro u M' ⟨e, _⟩; cases e
    · have d1 : decide ((i : Int) < (na : Int)) = false := by simp; omega
      have d2 : decide ((na : Int) ≤ (i : Int)) = true := by simp; omega
      by_cases h2 : k < nb
      · have d3 : decide ((k : Int) < (nb : Int)) = true := by simp; omega
        have d4 : decide ((nb : Int) ≤ (k : Int)) = false := by simp; omega
        have fk := hfk h2
        repeat' (first
              | (show DW _ _ _ _ _ _ _ _; first
                | refine DW_V tabs rfl rfl rfl rfl (congrArg AV.bool d1) ?_
                | refine DW_V tabs rfl rfl rfl rfl (congrArg AV.bool d2) ?_
                | refine DW_V tabs rfl rfl rfl rfl (congrArg AV.bool d3) ?_
                | refine DW_V tabs rfl rfl rfl rfl (congrArg AV.bool d4) ?_
                | refine DW_V tabs rfl rfl rfl rfl (congrArg (AV.int _) fk) ?_
                | refine DW_Q tabs rfl rfl rfl rfl ?_
                | refine DW_nil ?_
                | refine DW_R tabOK rfl rfl rfl rfl rfl ?_
                | refine DW_E tabOK rfl rfl rfl rfl rfl ?_
                | refine DW_E0 tabOK rfl rfl rfl rfl rfl ?_
                | refine DW_no rfl rfl rfl ?_
                | refine DW_no0 rfl rfl rfl ?_
                | refine DW_lits tabOK rfl rfl rfl rfl rfl rfl rfl rfl rfl rfl rfl rfl rfl ?_
                | refine DW_append_own tabOK rfl rfl rfl rfl rfl rfl rfl rfl rfl rfl rfl rfl rfl rfl rfl (by simp; omega) (by simp; omega) ?_)
              | (show W _ _ _ _ _ _; first
                | refine W_seq ?_
                | refine W_text rfl (fun _ _ _ h => h) ?_
                | refine W_block ?_
                | refine W_skip ?_
                | refine W_exit ?_
                | refine W_ret ?_
                | refine W_true rfl ?_
                | refine W_false rfl ?_
                | refine W_cond rfl (fun _ => ?_) (fun _ => ?_)))
        refine DW_call rfl rfl rfl rfl rfl rfl (hs2 s i k hJ h2).1 ?_ ?_
        · rintro u M' ⟨e, rfl⟩
          cases e
          repeat' (first
                | (show DW _ _ _ _ _ _ _ _; first
                  | refine DW_V tabs rfl rfl rfl rfl (congrArg AV.bool d1) ?_
                  | refine DW_V tabs rfl rfl rfl rfl (congrArg AV.bool d2) ?_
                  | refine DW_V tabs rfl rfl rfl rfl (congrArg AV.bool d3) ?_
                  | refine DW_V tabs rfl rfl rfl rfl (congrArg AV.bool d4) ?_
                  | refine DW_V tabs rfl rfl rfl rfl (congrArg (AV.int _) fk) ?_
                  | refine DW_Q tabs rfl rfl rfl rfl ?_
                  | refine DW_nil ?_
                  | refine DW_R tabOK rfl rfl rfl rfl rfl ?_
                  | refine DW_E tabOK rfl rfl rfl rfl rfl ?_
                  | refine DW_E0 tabOK rfl rfl rfl rfl rfl ?_
                  | refine DW_no rfl rfl rfl ?_
                  | refine DW_no0 rfl rfl rfl ?_
                  | refine DW_lits tabOK rfl rfl rfl rfl rfl rfl rfl rfl rfl rfl rfl rfl rfl ?_
                  | refine DW_append_own tabOK rfl rfl rfl rfl rfl rfl rfl rfl rfl rfl rfl rfl rfl rfl rfl (by simp; omega) (by simp; omega) ?_)
                | (show W _ _ _ _ _ _; first
                  | refine W_seq ?_
                  | refine W_text rfl (fun _ _ _ h => h) ?_
                  | refine W_block ?_
                  | refine W_skip ?_
                  | refine W_exit ?_
                  | refine W_ret ?_
                  | refine W_true rfl ?_
                  | refine W_false rfl ?_
                  | refine W_cond rfl (fun _ => ?_) (fun _ => ?_)))
          refine ⟨(na - i) + (nb - (k + 1)) + 1, _, _, by omega, ⟨i, k + 1, step s (-1) k, by omega, by omega, rfl, (hs2 s i k hJ h2).2, rfl, ?_, rfl⟩, Joint.le ?_ (Mem.le_refl _)⟩
          · rw [← hw, walkF_2 h2 (fun h => absurd h h1) (.inl (by omega)), show na - i + (nb - k) = na - i + (nb - (k + 1)) + 1 from by omega]
          · skip
            repeat (refine AF.le_cons rfl ?_)
            exact AF.le_nil rfl
        · rintro u M' ⟨e, _⟩; cases e
      · have d3 : decide ((k : Int) < (nb : Int)) = false := by simp; omega
        repeat' (first
              | (show DW _ _ _ _ _ _ _ _; first
                | refine DW_V tabs rfl rfl rfl rfl (congrArg AV.bool d1) ?_
                | refine DW_V tabs rfl rfl rfl rfl (congrArg AV.bool d2) ?_
                | refine DW_V tabs rfl rfl rfl rfl (congrArg AV.bool d3) ?_
                | refine DW_Q tabs rfl rfl rfl rfl ?_
                | refine DW_nil ?_
                | refine DW_R tabOK rfl rfl rfl rfl rfl ?_
                | refine DW_E tabOK rfl rfl rfl rfl rfl ?_
                | refine DW_E0 tabOK rfl rfl rfl rfl rfl ?_
                | refine DW_no rfl rfl rfl ?_
                | refine DW_no0 rfl rfl rfl ?_
                | refine DW_lits tabOK rfl rfl rfl rfl rfl rfl rfl rfl rfl rfl rfl rfl rfl ?_
                | refine DW_append_own tabOK rfl rfl rfl rfl rfl rfl rfl rfl rfl rfl rfl rfl rfl rfl rfl (by simp; omega) (by simp; omega) ?_)
              | (show W _ _ _ _ _ _; first
                | refine W_seq ?_
                | refine W_text rfl (fun _ _ _ h => h) ?_
                | refine W_block ?_
                | refine W_skip ?_
                | refine W_exit ?_
                | refine W_ret ?_
                | refine W_true rfl ?_
                | refine W_false rfl ?_
                | refine W_cond rfl (fun _ => ?_) (fun _ => ?_)))
        refine ⟨rfl, _, rfl, rfl, ?_⟩
        rw [← hw, walkF_end (by omega) (by omega)]
end Go.Proofs.Yteimhnedflbkmaa
