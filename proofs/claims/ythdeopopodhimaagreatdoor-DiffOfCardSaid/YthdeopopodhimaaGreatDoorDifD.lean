/- Rows of deltas: Entries of the document. No further condition. -/
import Derived.Test.YthdeopopodhimaaGreatDoorDifC
set_option linter.unusedVariables false
set_option linter.unusedSimpArgs false
namespace Go.Proofs.YthdeopopodhimaaGreatDoor
open Go.Ab

theorem sl_more (s : List Dl × Nat) (d : Dl) {k : Nat} : AV.sl 2 (s.1.map Dl.av ++ [d.av]) (.tok k (s.2 + 1)) = AV.sl 2 ((more s d).1.map Dl.av) (.tok k (more s d).2) := by simp [more]
def reF (a b : List En) (s : List Dl × Nat) (i k : Nat) : AF := ⟨[(0, ensA a .none), (1, ensA b .none), (5, dlA s.1 (.tok 0 s.2)), (6, .int .i64 (i : Int)), (7, .int .i64 (k : Int))], []⟩
set_option maxRecDepth 100000 in
set_option maxHeartbeats 8000000 in
theorem rentries_ok (a b : List En) (ha : smallE a) (hb : smallE b) : APure Tryz.prog 61 [ensA a .none, ensA b .none] (dlA (entriesS a b ([], 0)).1 .none) := by
  refine pure_sub (closed2 (closed_ens a) (closed_ens b)) (closed_dls _) ?_
  refine acalls_of tabOK Tryz.func61 rfl (by decide) (by simp [Tryz.f61]) ?_
  have ha1 := ha.1
  have hb1 := hb.1
  have la := len_map En.av a
  have lb := len_map En.av b
  unfold ensA
  repeat' (first | refine DW_VI tabs rfl (by first | exact la | exact lb) ?_ | refine DW_A tabs rfl ?_ | refine DW_nil ?_ | refine W_A rfl ?_ | refine DW_row tabOK rfl ?_ | refine DW_app tabOK rfl rfl (by simp; omega) (by simp; omega) ?_ | refine DW_app0 tabOK rfl (by simp; omega) (by simp; omega) ?_ | refine W_draw mixed [0, 1, 2, 3, 4, 5, 6, 7, 8, 9, 10, 11, 15, 16, 12, 13, 14, 17, 18, 19, 20, 21, 22] [.P, .P, .P, .P, .P, .P, .P, .P, .P, .P, .P, .P, .R, .R, .R, .P, .P, .R, .R, .R, .P, .P, .P] rfl rfl (by kernel_rfl) ?_ | refine W_draw mixed [0, 1, 2, 3, 4, 5, 6, 10, 11, 7, 8, 9, 12, 13, 14, 15, 16] [.P, .P, .P, .P, .P, .P, .P, .R, .R, .R, .P, .P, .R, .R, .R, .P, .P] rfl rfl (by kernel_rfl) ?_ | refine W_draw mixed [0, 1, 5, 6, 2, 3, 4, 7, 8, 9, 10, 11] [.P, .P, .R, .R, .R, .P, .P, .R, .R, .R, .P, .P] rfl rfl (by kernel_rfl) ?_)
  refine W_loop (fun m f N => ∃ (i k : Nat) (s : List Dl × Nat), i ≤ a.length ∧ k ≤ b.length ∧ m = (a.length - i) + (b.length - k) + 1 ∧ s.1.length ≤ i + k ∧ N = tokM s.2 ∧
    walkF a.length b.length (fun i => (a.getD i default).path) (fun i => (b.getD i default).path) (stepE a b) m i k s = entriesS a b ([], 0) ∧ f = reF a b s i k)
    ⟨0, 0, ([], 0), by omega, by omega, rfl, by simp, rfl, rfl, rfl⟩
    ((Joint.tok 5 rfl (sz' := 2) (.inr rfl)).trans (Joint.le ?_ (tokM_of rfl rfl))) ?_
  · unfold reF ensA dlA
    repeat (refine AF.le_cons rfl ?_)
    exact AF.le_nil rfl
  rintro m f N ⟨i, k, s, hi, hk, rfl, hJ, rfl, hw, rfl⟩
  unfold reF ensA dlA
  have hfi : i < a.length → IntKind.wrap .i64 ((i : Int) + 1) = ((i + 1 : Nat) : Int) := fun h => wrap_succ (by omega)
  have hfk : k < b.length → IntKind.wrap .i64 ((k : Int) + 1) = ((k + 1 : Nat) : Int) := fun h => wrap_succ (by omega)
  have gA : i < a.length → a[i]? = some (a.getD i default) := fun h => by simp [List.getD, h]
  have gB : k < b.length → b[k]? = some (b.getD k default) := fun h => by simp [List.getD, h]
  have ls := len_map Dl.av s.1
  have n1 : ¬ ((i : Int) < 0) := by omega
  have n2 : ¬ ((k : Int) < 0) := by omega
  by_cases h1 : i < a.length
  · have d1 : decide ((i : Int) < (a.length : Int)) = true := decide_eq_true (by omega)
    have d2 : decide ((a.length : Int) ≤ (i : Int)) = false := decide_eq_false (by omega)
    have fi := hfi h1
    have xa := gA h1
    have e1 : stepE a b s (i : Int) (-1 : Int) = more s ⟨(a.getD i default).path, 3⟩ := by simp only [stepE, if_neg n1, Int.toNat_natCast]; rfl
    by_cases h2 : k < b.length
    · have d3 : decide ((k : Int) < (b.length : Int)) = true := decide_eq_true (by omega)
      have d4 : decide ((b.length : Int) ≤ (k : Int)) = false := decide_eq_false (by omega)
      have fk := hfk h2
      have xb := gB h2
      cases hl : bl (a.getD i default).path (b.getD k default).path
      · cases hl2 : bl (b.getD k default).path (a.getD i default).path
        · have ks := rmSame_ok (a.getD i default).meta_ (b.getD k default).meta_ (ha.2 _ (List.mem_of_getElem? xa)) (hb.2 _ (List.mem_of_getElem? xb))
          have e3 : stepE a b s (i : Int) (k : Int) = if (a.getD i default).meta_ = (b.getD k default).meta_ then s else more s ⟨(a.getD i default).path, 2⟩ := by simp only [stepE, if_neg n1, if_neg n2, Int.toNat_natCast]
          have fin : walkF a.length b.length (fun i => (a.getD i default).path) (fun i => (b.getD i default).path) (stepE a b) (a.length - (i + 1) + (b.length - (k + 1)) + 1) (i + 1) (k + 1) (stepE a b s i k) = entriesS a b ([], 0) := by
            rw [← hw, show a.length - i + (b.length - k) + 1 = (a.length - (i + 1) + (b.length - (k + 1)) + 1) + 1 + 1 from by omega, walkF_3 h1 h2 hl hl2]
            exact (walkF_more (by omega)).symm
          rw [e3] at fin
          by_cases hm : (a.getD i default).meta_ = (b.getD k default).meta_
          · rw [decide_eq_true hm] at ks
            rw [if_pos hm] at fin
            repeat' (first | refine DW_VB tabs rfl (by first | exact d1 | exact d2 | exact d3 | exact d4 | exact hl | exact hl2) ?_ | refine DW_VI tabs rfl (by first | exact la | exact lb | exact fi | exact fk | exact ls) ?_ | refine DW_A tabs rfl ?_ | refine DW_nil ?_ | refine W_A rfl ?_ | refine DW_C rfl ks ?_ | refine DW_ix tabOK rfl (ixN xa) ?_ | refine DW_ix tabOK rfl (ixN xb) ?_ | refine DW_row tabOK rfl ?_ | refine DW_app tabOK rfl rfl (by simp; omega) (by simp; omega) ?_ | refine DW_app0 tabOK rfl (by simp; omega) (by simp; omega) ?_ | refine W_draw mixed [0, 1, 2, 3, 4, 5, 6, 7, 8, 9, 10, 11, 15, 16, 12, 13, 14, 17, 18, 19, 20, 21, 22] [.P, .P, .P, .P, .P, .P, .P, .P, .P, .P, .P, .P, .R, .R, .R, .P, .P, .R, .R, .R, .P, .P, .P] rfl rfl (by kernel_rfl) ?_ | refine W_draw mixed [0, 1, 2, 3, 4, 5, 6, 10, 11, 7, 8, 9, 12, 13, 14, 15, 16] [.P, .P, .P, .P, .P, .P, .P, .R, .R, .R, .P, .P, .R, .R, .R, .P, .P] rfl rfl (by kernel_rfl) ?_ | refine W_draw mixed [0, 1, 5, 6, 2, 3, 4, 7, 8, 9, 10, 11] [.P, .P, .R, .R, .R, .P, .P, .R, .R, .R, .P, .P] rfl rfl (by kernel_rfl) ?_)
            refine ⟨(a.length - (i + 1)) + (b.length - (k + 1)) + 1, _, _, by omega, ⟨i + 1, k + 1, s, by omega, by omega, rfl, by omega, rfl, fin, rfl⟩, Joint.le ?_ (tokM_of rfl rfl)⟩
            repeat (refine AF.le_cons rfl ?_)
            exact AF.le_nil rfl
          · rw [decide_eq_false hm] at ks
            rw [if_neg hm] at fin
            repeat' (first | refine DW_VB tabs rfl (by first | exact d1 | exact d2 | exact d3 | exact d4 | exact hl | exact hl2) ?_ | refine DW_VI tabs rfl (by first | exact la | exact lb | exact fi | exact fk | exact ls) ?_ | refine DW_A tabs rfl ?_ | refine DW_nil ?_ | refine W_A rfl ?_ | refine DW_C rfl ks ?_ | refine DW_ix tabOK rfl (ixN xa) ?_ | refine DW_ix tabOK rfl (ixN xb) ?_ | refine DW_row tabOK rfl ?_ | refine DW_app tabOK rfl rfl (by simp; omega) (by simp; omega) ?_ | refine DW_app0 tabOK rfl (by simp; omega) (by simp; omega) ?_ | refine W_draw mixed [0, 1, 2, 3, 4, 5, 6, 7, 8, 9, 10, 11, 15, 16, 12, 13, 14, 17, 18, 19, 20, 21, 22] [.P, .P, .P, .P, .P, .P, .P, .P, .P, .P, .P, .P, .R, .R, .R, .P, .P, .R, .R, .R, .P, .P, .P] rfl rfl (by kernel_rfl) ?_ | refine W_draw mixed [0, 1, 2, 3, 4, 5, 6, 10, 11, 7, 8, 9, 12, 13, 14, 15, 16] [.P, .P, .P, .P, .P, .P, .P, .R, .R, .R, .P, .P, .R, .R, .R, .P, .P] rfl rfl (by kernel_rfl) ?_ | refine W_draw mixed [0, 1, 5, 6, 2, 3, 4, 7, 8, 9, 10, 11] [.P, .P, .R, .R, .R, .P, .P, .R, .R, .R, .P, .P] rfl rfl (by kernel_rfl) ?_)
            refine ⟨(a.length - (i + 1)) + (b.length - (k + 1)) + 1, _, _, by omega, ⟨i + 1, k + 1, more s ⟨(a.getD i default).path, 2⟩, by omega, by omega, rfl, by simp [more]; omega, rfl, fin, rfl⟩, Joint.le ?_ (tokM_of rfl rfl)⟩
            repeat' (first | exact AF.le_nil rfl | refine AF.le_cons rfl ?_ | refine AF.le_cons (sl_more s ⟨(a.getD i default).path, 2⟩ (k := 0)) ?_)
        · repeat' (first | refine DW_VB tabs rfl (by first | exact d1 | exact d2 | exact d3 | exact d4 | exact hl | exact hl2) ?_ | refine DW_VI tabs rfl (by first | exact la | exact lb | exact fi | exact fk | exact ls) ?_ | refine DW_A tabs rfl ?_ | refine DW_nil ?_ | refine W_A rfl ?_ | refine DW_ix tabOK rfl (ixN xa) ?_ | refine DW_ix tabOK rfl (ixN xb) ?_ | refine DW_row tabOK rfl ?_ | refine DW_app tabOK rfl rfl (by simp; omega) (by simp; omega) ?_ | refine DW_app0 tabOK rfl (by simp; omega) (by simp; omega) ?_ | refine W_draw mixed [0, 1, 2, 3, 4, 5, 6, 7, 8, 9, 10, 11, 15, 16, 12, 13, 14, 17, 18, 19, 20, 21, 22] [.P, .P, .P, .P, .P, .P, .P, .P, .P, .P, .P, .P, .R, .R, .R, .P, .P, .R, .R, .R, .P, .P, .P] rfl rfl (by kernel_rfl) ?_ | refine W_draw mixed [0, 1, 2, 3, 4, 5, 6, 10, 11, 7, 8, 9, 12, 13, 14, 15, 16] [.P, .P, .P, .P, .P, .P, .P, .R, .R, .R, .P, .P, .R, .R, .R, .P, .P] rfl rfl (by kernel_rfl) ?_ | refine W_draw mixed [0, 1, 5, 6, 2, 3, 4, 7, 8, 9, 10, 11] [.P, .P, .R, .R, .R, .P, .P, .R, .R, .R, .P, .P] rfl rfl (by kernel_rfl) ?_)
          refine ⟨(a.length - i) + (b.length - (k + 1)) + 1, _, _, by omega, ⟨i, k + 1, more s ⟨(b.getD k default).path, 1⟩, by omega, by omega, rfl, by simp [more]; omega, rfl, ?_, rfl⟩, Joint.le ?_ (tokM_of rfl rfl)⟩
          · rw [← hw, show a.length - i + (b.length - k) + 1 = ((a.length - i) + (b.length - (k + 1)) + 1) + 1 from by omega, walkF_2 h2 (fun _ => hl) (.inr hl2)]
            rfl
          · skip
            repeat' (first | exact AF.le_nil rfl | refine AF.le_cons rfl ?_ | refine AF.le_cons (sl_more s ⟨(b.getD k default).path, 1⟩ (k := 0)) ?_)
      · repeat' (first | refine DW_VB tabs rfl (by first | exact d1 | exact d2 | exact d3 | exact d4 | exact hl) ?_ | refine DW_VI tabs rfl (by first | exact la | exact lb | exact fi | exact fk | exact ls) ?_ | refine DW_A tabs rfl ?_ | refine DW_nil ?_ | refine W_A rfl ?_ | refine DW_ix tabOK rfl (ixN xa) ?_ | refine DW_ix tabOK rfl (ixN xb) ?_ | refine DW_row tabOK rfl ?_ | refine DW_app tabOK rfl rfl (by simp; omega) (by simp; omega) ?_ | refine DW_app0 tabOK rfl (by simp; omega) (by simp; omega) ?_ | refine W_draw mixed [0, 1, 2, 3, 4, 5, 6, 7, 8, 9, 10, 11, 15, 16, 12, 13, 14, 17, 18, 19, 20, 21, 22] [.P, .P, .P, .P, .P, .P, .P, .P, .P, .P, .P, .P, .R, .R, .R, .P, .P, .R, .R, .R, .P, .P, .P] rfl rfl (by kernel_rfl) ?_ | refine W_draw mixed [0, 1, 2, 3, 4, 5, 6, 10, 11, 7, 8, 9, 12, 13, 14, 15, 16] [.P, .P, .P, .P, .P, .P, .P, .R, .R, .R, .P, .P, .R, .R, .R, .P, .P] rfl rfl (by kernel_rfl) ?_ | refine W_draw mixed [0, 1, 5, 6, 2, 3, 4, 7, 8, 9, 10, 11] [.P, .P, .R, .R, .R, .P, .P, .R, .R, .R, .P, .P] rfl rfl (by kernel_rfl) ?_)
        refine ⟨(a.length - (i + 1)) + (b.length - k) + 1, _, _, by omega, ⟨i + 1, k, more s ⟨(a.getD i default).path, 3⟩, by omega, by omega, rfl, by simp [more]; omega, rfl, ?_, rfl⟩, Joint.le ?_ (tokM_of rfl rfl)⟩
        · rw [← hw, show a.length - i + (b.length - k) + 1 = ((a.length - (i + 1)) + (b.length - k) + 1) + 1 from by omega, walkF_1 h1 (.inr hl), e1]
        · skip
          repeat' (first | exact AF.le_nil rfl | refine AF.le_cons rfl ?_ | refine AF.le_cons (sl_more s ⟨(a.getD i default).path, 3⟩ (k := 0)) ?_)
    · have d3 : decide ((k : Int) < (b.length : Int)) = false := decide_eq_false (by omega)
      have d4 : decide ((b.length : Int) ≤ (k : Int)) = true := decide_eq_true (by omega)
      repeat' (first | refine DW_VB tabs rfl (by first | exact d1 | exact d2 | exact d3 | exact d4) ?_ | refine DW_VI tabs rfl (by first | exact la | exact lb | exact fi | exact ls) ?_ | refine DW_A tabs rfl ?_ | refine DW_nil ?_ | refine W_A rfl ?_ | refine DW_ix tabOK rfl (ixN xa) ?_ | refine DW_row tabOK rfl ?_ | refine DW_app tabOK rfl rfl (by simp; omega) (by simp; omega) ?_ | refine DW_app0 tabOK rfl (by simp; omega) (by simp; omega) ?_ | refine W_draw mixed [0, 1, 2, 3, 4, 5, 6, 7, 8, 9, 10, 11, 15, 16, 12, 13, 14, 17, 18, 19, 20, 21, 22] [.P, .P, .P, .P, .P, .P, .P, .P, .P, .P, .P, .P, .R, .R, .R, .P, .P, .R, .R, .R, .P, .P, .P] rfl rfl (by kernel_rfl) ?_ | refine W_draw mixed [0, 1, 2, 3, 4, 5, 6, 10, 11, 7, 8, 9, 12, 13, 14, 15, 16] [.P, .P, .P, .P, .P, .P, .P, .R, .R, .R, .P, .P, .R, .R, .R, .P, .P] rfl rfl (by kernel_rfl) ?_ | refine W_draw mixed [0, 1, 5, 6, 2, 3, 4, 7, 8, 9, 10, 11] [.P, .P, .R, .R, .R, .P, .P, .R, .R, .R, .P, .P] rfl rfl (by kernel_rfl) ?_)
      refine ⟨(a.length - (i + 1)) + (b.length - k) + 1, _, _, by omega, ⟨i + 1, k, more s ⟨(a.getD i default).path, 3⟩, by omega, by omega, rfl, by simp [more]; omega, rfl, ?_, rfl⟩, Joint.le ?_ (tokM_of rfl rfl)⟩
      · rw [← hw, show a.length - i + (b.length - k) + 1 = ((a.length - (i + 1)) + (b.length - k) + 1) + 1 from by omega, walkF_1 h1 (.inl (by omega)), e1]
      · skip
        repeat' (first | exact AF.le_nil rfl | refine AF.le_cons rfl ?_ | refine AF.le_cons (sl_more s ⟨(a.getD i default).path, 3⟩ (k := 0)) ?_)
  · have d1 : decide ((i : Int) < (a.length : Int)) = false := decide_eq_false (by omega)
    have d2 : decide ((a.length : Int) ≤ (i : Int)) = true := decide_eq_true (by omega)
    by_cases h2 : k < b.length
    · have d3 : decide ((k : Int) < (b.length : Int)) = true := decide_eq_true (by omega)
      have d4 : decide ((b.length : Int) ≤ (k : Int)) = false := decide_eq_false (by omega)
      have fk := hfk h2
      have xb := gB h2
      repeat' (first | refine DW_VB tabs rfl (by first | exact d1 | exact d2 | exact d3 | exact d4) ?_ | refine DW_VI tabs rfl (by first | exact la | exact lb | exact fk | exact ls) ?_ | refine DW_A tabs rfl ?_ | refine DW_nil ?_ | refine W_A rfl ?_ | refine DW_ix tabOK rfl (ixN xb) ?_ | refine DW_row tabOK rfl ?_ | refine DW_app tabOK rfl rfl (by simp; omega) (by simp; omega) ?_ | refine DW_app0 tabOK rfl (by simp; omega) (by simp; omega) ?_ | refine W_draw mixed [0, 1, 2, 3, 4, 5, 6, 7, 8, 9, 10, 11, 15, 16, 12, 13, 14, 17, 18, 19, 20, 21, 22] [.P, .P, .P, .P, .P, .P, .P, .P, .P, .P, .P, .P, .R, .R, .R, .P, .P, .R, .R, .R, .P, .P, .P] rfl rfl (by kernel_rfl) ?_ | refine W_draw mixed [0, 1, 2, 3, 4, 5, 6, 10, 11, 7, 8, 9, 12, 13, 14, 15, 16] [.P, .P, .P, .P, .P, .P, .P, .R, .R, .R, .P, .P, .R, .R, .R, .P, .P] rfl rfl (by kernel_rfl) ?_ | refine W_draw mixed [0, 1, 5, 6, 2, 3, 4, 7, 8, 9, 10, 11] [.P, .P, .R, .R, .R, .P, .P, .R, .R, .R, .P, .P] rfl rfl (by kernel_rfl) ?_)
      refine ⟨(a.length - i) + (b.length - (k + 1)) + 1, _, _, by omega, ⟨i, k + 1, more s ⟨(b.getD k default).path, 1⟩, by omega, by omega, rfl, by simp [more]; omega, rfl, ?_, rfl⟩, Joint.le ?_ (tokM_of rfl rfl)⟩
      · rw [← hw, show a.length - i + (b.length - k) + 1 = ((a.length - i) + (b.length - (k + 1)) + 1) + 1 from by omega, walkF_2 h2 (fun h => absurd h h1) (.inl (by omega))]
        rfl
      · skip
        repeat' (first | exact AF.le_nil rfl | refine AF.le_cons rfl ?_ | refine AF.le_cons (sl_more s ⟨(b.getD k default).path, 1⟩ (k := 0)) ?_)
    · have d3 : decide ((k : Int) < (b.length : Int)) = false := decide_eq_false (by omega)
      have e := walkF_end (na := a.length) (nb := b.length) (pa := fun i => (a.getD i default).path) (pb := fun i => (b.getD i default).path) (step := stepE a b) (n := a.length - i + (b.length - k)) (i := i) (k := k) (s := s) (by omega) (by omega)
      rw [hw] at e
      rw [e]
      have hc := closed_dls s.1
      unfold dlA at hc
      repeat' (first | refine DW_VB tabs rfl (by first | exact d1 | exact d2 | exact d3) ?_ | refine DW_VI tabs rfl (by first | exact la | exact lb | exact ls) ?_ | refine DW_A tabs rfl ?_ | refine DW_nil ?_ | refine W_A rfl ?_ | refine DW_row tabOK rfl ?_ | refine DW_app tabOK rfl rfl (by simp; omega) (by simp; omega) ?_ | refine DW_app0 tabOK rfl (by simp; omega) (by simp; omega) ?_ | refine W_draw mixed [0, 1, 2, 3, 4, 5, 6, 7, 8, 9, 10, 11, 15, 16, 12, 13, 14, 17, 18, 19, 20, 21, 22] [.P, .P, .P, .P, .P, .P, .P, .P, .P, .P, .P, .P, .R, .R, .R, .P, .P, .R, .R, .R, .P, .P, .P] rfl rfl (by kernel_rfl) ?_ | refine W_draw mixed [0, 1, 2, 3, 4, 5, 6, 10, 11, 7, 8, 9, 12, 13, 14, 15, 16] [.P, .P, .P, .P, .P, .P, .P, .R, .R, .R, .P, .P, .R, .R, .R, .P, .P] rfl rfl (by kernel_rfl) ?_ | refine W_draw mixed [0, 1, 5, 6, 2, 3, 4, 7, 8, 9, 10, 11] [.P, .P, .R, .R, .R, .P, .P, .R, .R, .R, .P, .P] rfl rfl (by kernel_rfl) ?_)
      exact ⟨rfl, _, rfl, _, rfl, SubC.untag hc⟩
end Go.Proofs.YthdeopopodhimaaGreatDoor
