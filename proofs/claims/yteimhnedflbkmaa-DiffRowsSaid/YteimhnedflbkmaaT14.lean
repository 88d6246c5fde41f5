/- A step of the proof that the law holds: functions of the program, each shown to compute what its text says. No further condition. -/
import Derived.Test.YteimhnedflbkmaaT12
import Derived.Test.YteimhnedflbkmaaT13
namespace Go.Proofs.Yteimhnedflbkmaa
open Go.Ab

theorem mem_any_false {α : Type} {f : α → Bool} {l : List α} (h : l.any f = false) : ∀ x, x ∈ l → f x = false := by
  intro x hx
  cases e : f x with
  | false => rfl
  | true =>
    have : l.any f = true := List.any_eq_true.2 ⟨x, hx, e⟩
    rw [this] at h
    cases h

theorem small_of {l : List En} (h : farS l = false) : smallE l := by
  unfold farS at h
  split at h
  · cases h
  · rename_i hl
    refine ⟨by omega, ?_⟩
    intro e he
    have := mem_any_false h e he
    simp only [farE, Bool.or_eq_false_iff, decide_eq_false_iff_not] at this
    omega

theorem walk_len {na nb : Nat} {pa pb : Nat → Bytes} {step : List Dl × Nat → Int → Int → List Dl × Nat} (hs : ∀ s i k, (step s i k).1.length ≤ s.1.length + 1) : ∀ (n i k : Nat) (s : List Dl × Nat), (walkF na nb pa pb step n i k s).1.length ≤ s.1.length + n
  | 0, _, _, s => Nat.le_refl _
  | n + 1, i, k, s => by
    rw [walkF]
    split
    · omega
    · split
      · have := walk_len (na := na) (nb := nb) (pa := pa) (pb := pb) hs n (i + 1) k (step s i (-1))
        have := hs s i (-1)
        omega
      · split
        · have := walk_len (na := na) (nb := nb) (pa := pa) (pb := pb) hs n i (k + 1) (step s (-1) k)
          have := hs s (-1) k
          omega
        · have := walk_len (na := na) (nb := nb) (pa := pa) (pb := pb) hs n (i + 1) (k + 1) (step s i k)
          have := hs s i k
          omega

theorem entries_len (a b : List En) (sa : smallE a) (sb : smallE b) : (entriesS a b ([], 0)).1.length < 9223372036854775807 := by
  have h1 := sa.1
  have h2 := sb.1
  have := walk_len (na := a.length) (nb := b.length) (pa := fun i => (a.getD i default).path) (pb := fun i => (b.getD i default).path) (step := stepE a b) (fun s i k => by
    unfold stepE
    split
    · simp [more]
    · split
      · simp [more]
      · split <;> simp [more]) (a.length + b.length + 1) 0 0 ([], 0)
  simp only [entriesS]
  simp only [List.length_nil] at this
  omega

theorem then_len (a b : List Dl) (sa : good a) (sb : good b) : (thenS a b ([], 0)).1.length < 9223372036854775807 := by
  have h1 := sa.1
  have h2 := sb.1
  have := walk_len (na := a.length) (nb := b.length) (pa := fun i => (a.getD i default).path) (pb := fun i => (b.getD i default).path) (step := stepT a b) (fun s i k => by
    unfold stepT
    split
    · simp [more]
    · split
      · simp [more]
      · split <;> simp [more]) (a.length + b.length + 1) 0 0 ([], 0)
  simp only [thenS]
  simp only [List.length_nil] at this
  omega

set_option maxHeartbeats 4000000 in
theorem diffRows_ok (a b : List En) (x y : List Dl) : APure Try.prog 3 [.sl 5 (a.map En.av) .none, .sl 5 (b.map En.av) .none, .sl 2 (x.map Dl.av) .none, .sl 2 (y.map Dl.av) .none] (.bool true) := by
  intro M
  refine acalls_of tabOK Try.func3 rfl (by decide) (by simp [Try.f3]) ?_
  have lx : ((x.map Dl.av).length : Int) = (x.length : Int) := by simp
  have ly : ((y.map Dl.av).length : Int) = (y.length : Int) := by simp
  have hfa := far4_ok a
  have hfb := far4_ok b
  repeat' (first
        | (show DW _ _ _ _ _ _ _ _; first
          | refine DW_Q tabs rfl rfl rfl rfl ?_
          | refine DW_nil ?_
          | refine DW_R tabOK rfl rfl rfl rfl rfl ?_
          | refine DW_E tabOK rfl rfl rfl rfl rfl ?_
          | refine DW_E0 tabOK rfl rfl rfl rfl rfl ?_
          | refine DW_no rfl rfl rfl ?_
          | refine DW_no0 rfl rfl rfl ?_
          | refine DW_lits tabOK rfl rfl rfl rfl rfl rfl rfl rfl rfl rfl rfl rfl rfl ?_
          | refine DW_append_own tabOK rfl rfl rfl rfl rfl rfl rfl rfl rfl rfl rfl rfl rfl rfl rfl (by simp; omega) (by simp; omega) ?_)
        | (show W _ _ _ _ _ _; first
          | refine W_seq ?_
          | refine W_text rfl (fun _ _ _ h => h) ?_
          | refine W_block ?_
          | refine W_skip ?_
          | refine W_exit ?_
          | refine W_ret ?_
          | refine W_true rfl ?_
          | refine W_false rfl ?_
          | refine W_cond rfl (fun _ => ?_) (fun _ => ?_)))
  refine DW_pure rfl rfl rfl rfl rfl hfa ?_
  cases h1 : farS a
  case true =>
    repeat' (first
          | (show DW _ _ _ _ _ _ _ _; first
            | refine DW_Q tabs rfl rfl rfl rfl ?_
            | refine DW_nil ?_
            | refine DW_R tabOK rfl rfl rfl rfl rfl ?_
            | refine DW_E tabOK rfl rfl rfl rfl rfl ?_
            | refine DW_E0 tabOK rfl rfl rfl rfl rfl ?_
            | refine DW_no rfl rfl rfl ?_
            | refine DW_no0 rfl rfl rfl ?_
            | refine DW_lits tabOK rfl rfl rfl rfl rfl rfl rfl rfl rfl rfl rfl rfl rfl ?_
            | refine DW_append_own tabOK rfl rfl rfl rfl rfl rfl rfl rfl rfl rfl rfl rfl rfl rfl rfl (by simp; omega) (by simp; omega) ?_)
          | (show W _ _ _ _ _ _; first
            | refine W_seq ?_
            | refine W_text rfl (fun _ _ _ h => h) ?_
            | refine W_block ?_
            | refine W_skip ?_
            | refine W_exit ?_
            | refine W_ret ?_
            | refine W_true rfl ?_
            | refine W_false rfl ?_
            | refine W_cond rfl (fun _ => ?_) (fun _ => ?_)))
    refine DW_pure rfl rfl rfl rfl rfl diffs_ok ?_
    repeat' (first
          | (show DW _ _ _ _ _ _ _ _; first
            | refine DW_Q tabs rfl rfl rfl rfl ?_
            | refine DW_nil ?_
            | refine DW_R tabOK rfl rfl rfl rfl rfl ?_
            | refine DW_E tabOK rfl rfl rfl rfl rfl ?_
            | refine DW_E0 tabOK rfl rfl rfl rfl rfl ?_
            | refine DW_no rfl rfl rfl ?_
            | refine DW_no0 rfl rfl rfl ?_
            | refine DW_lits tabOK rfl rfl rfl rfl rfl rfl rfl rfl rfl rfl rfl rfl rfl ?_
            | refine DW_append_own tabOK rfl rfl rfl rfl rfl rfl rfl rfl rfl rfl rfl rfl rfl rfl rfl (by simp; omega) (by simp; omega) ?_)
          | (show W _ _ _ _ _ _; first
            | refine W_seq ?_
            | refine W_text rfl (fun _ _ _ h => h) ?_
            | refine W_block ?_
            | refine W_skip ?_
            | refine W_exit ?_
            | refine W_ret ?_
            | refine W_true rfl ?_
            | refine W_false rfl ?_
            | refine W_cond rfl (fun _ => ?_) (fun _ => ?_)))
    exact ⟨rfl, _, rfl, rfl, rfl⟩
  have sa := small_of h1
  repeat (first
        | refine DW_Q tabs rfl rfl rfl rfl ?_
        | refine DW_R tabOK rfl rfl rfl rfl rfl ?_
        | refine DW_E tabOK rfl rfl rfl rfl rfl ?_
        | refine DW_E0 tabOK rfl rfl rfl rfl rfl ?_
        | refine DW_no rfl rfl rfl ?_
        | refine DW_no0 rfl rfl rfl ?_)
  refine DW_pure rfl rfl rfl rfl rfl hfb ?_
  cases h2 : farS b
  case true =>
    repeat' (first
          | (show DW _ _ _ _ _ _ _ _; first
            | refine DW_Q tabs rfl rfl rfl rfl ?_
            | refine DW_nil ?_
            | refine DW_R tabOK rfl rfl rfl rfl rfl ?_
            | refine DW_E tabOK rfl rfl rfl rfl rfl ?_
            | refine DW_E0 tabOK rfl rfl rfl rfl rfl ?_
            | refine DW_no rfl rfl rfl ?_
            | refine DW_no0 rfl rfl rfl ?_
            | refine DW_lits tabOK rfl rfl rfl rfl rfl rfl rfl rfl rfl rfl rfl rfl rfl ?_
            | refine DW_append_own tabOK rfl rfl rfl rfl rfl rfl rfl rfl rfl rfl rfl rfl rfl rfl rfl (by simp; omega) (by simp; omega) ?_)
          | (show W _ _ _ _ _ _; first
            | refine W_seq ?_
            | refine W_text rfl (fun _ _ _ h => h) ?_
            | refine W_block ?_
            | refine W_skip ?_
            | refine W_exit ?_
            | refine W_ret ?_
            | refine W_true rfl ?_
            | refine W_false rfl ?_
            | refine W_cond rfl (fun _ => ?_) (fun _ => ?_)))
    refine DW_pure rfl rfl rfl rfl rfl diffs_ok ?_
    repeat' (first
          | (show DW _ _ _ _ _ _ _ _; first
            | refine DW_Q tabs rfl rfl rfl rfl ?_
            | refine DW_nil ?_
            | refine DW_R tabOK rfl rfl rfl rfl rfl ?_
            | refine DW_E tabOK rfl rfl rfl rfl rfl ?_
            | refine DW_E0 tabOK rfl rfl rfl rfl rfl ?_
            | refine DW_no rfl rfl rfl ?_
            | refine DW_no0 rfl rfl rfl ?_
            | refine DW_lits tabOK rfl rfl rfl rfl rfl rfl rfl rfl rfl rfl rfl rfl rfl ?_
            | refine DW_append_own tabOK rfl rfl rfl rfl rfl rfl rfl rfl rfl rfl rfl rfl rfl rfl rfl (by simp; omega) (by simp; omega) ?_)
          | (show W _ _ _ _ _ _; first
            | refine W_seq ?_
            | refine W_text rfl (fun _ _ _ h => h) ?_
            | refine W_block ?_
            | refine W_skip ?_
            | refine W_exit ?_
            | refine W_ret ?_
            | refine W_true rfl ?_
            | refine W_false rfl ?_
            | refine W_cond rfl (fun _ => ?_) (fun _ => ?_)))
    exact ⟨rfl, _, rfl, rfl, rfl⟩
  have sb := small_of h2
  by_cases h3 : 60 < x.length
  · have d3 : decide ((60 : Int) < (x.length : Int)) = true := by simp; omega
    repeat' (first
          | (show DW _ _ _ _ _ _ _ _; first
            | refine DW_V tabs rfl rfl rfl rfl (congrArg AV.bool d3) ?_
            | refine DW_V tabs rfl rfl rfl rfl (congrArg (AV.int _) lx) ?_
            | refine DW_V tabs rfl rfl rfl rfl (congrArg (AV.int _) ly) ?_
            | refine DW_Q tabs rfl rfl rfl rfl ?_
            | refine DW_nil ?_
            | refine DW_R tabOK rfl rfl rfl rfl rfl ?_
            | refine DW_E tabOK rfl rfl rfl rfl rfl ?_
            | refine DW_E0 tabOK rfl rfl rfl rfl rfl ?_
            | refine DW_no rfl rfl rfl ?_
            | refine DW_no0 rfl rfl rfl ?_
            | refine DW_lits tabOK rfl rfl rfl rfl rfl rfl rfl rfl rfl rfl rfl rfl rfl ?_
            | refine DW_append_own tabOK rfl rfl rfl rfl rfl rfl rfl rfl rfl rfl rfl rfl rfl rfl rfl (by simp; omega) (by simp; omega) ?_)
          | (show W _ _ _ _ _ _; first
            | refine W_seq ?_
            | refine W_text rfl (fun _ _ _ h => h) ?_
            | refine W_block ?_
            | refine W_skip ?_
            | refine W_exit ?_
            | refine W_ret ?_
            | refine W_true rfl ?_
            | refine W_false rfl ?_
            | refine W_cond rfl (fun _ => ?_) (fun _ => ?_)))
    refine DW_pure rfl rfl rfl rfl rfl diffs_ok ?_
    repeat' (first
          | (show DW _ _ _ _ _ _ _ _; first
            | refine DW_Q tabs rfl rfl rfl rfl ?_
            | refine DW_nil ?_
            | refine DW_R tabOK rfl rfl rfl rfl rfl ?_
            | refine DW_E tabOK rfl rfl rfl rfl rfl ?_
            | refine DW_E0 tabOK rfl rfl rfl rfl rfl ?_
            | refine DW_no rfl rfl rfl ?_
            | refine DW_no0 rfl rfl rfl ?_
            | refine DW_lits tabOK rfl rfl rfl rfl rfl rfl rfl rfl rfl rfl rfl rfl rfl ?_
            | refine DW_append_own tabOK rfl rfl rfl rfl rfl rfl rfl rfl rfl rfl rfl rfl rfl rfl rfl (by simp; omega) (by simp; omega) ?_)
          | (show W _ _ _ _ _ _; first
            | refine W_seq ?_
            | refine W_text rfl (fun _ _ _ h => h) ?_
            | refine W_block ?_
            | refine W_skip ?_
            | refine W_exit ?_
            | refine W_ret ?_
            | refine W_true rfl ?_
            | refine W_false rfl ?_
            | refine W_cond rfl (fun _ => ?_) (fun _ => ?_)))
    exact ⟨rfl, _, rfl, rfl, rfl⟩
  have d3 : decide ((60 : Int) < (x.length : Int)) = false := by simp; omega
  by_cases h4 : 60 < y.length
  · have d4 : decide ((60 : Int) < (y.length : Int)) = true := by simp; omega
    repeat' (first
          | (show DW _ _ _ _ _ _ _ _; first
            | refine DW_V tabs rfl rfl rfl rfl (congrArg AV.bool d3) ?_
            | refine DW_V tabs rfl rfl rfl rfl (congrArg AV.bool d4) ?_
            | refine DW_V tabs rfl rfl rfl rfl (congrArg (AV.int _) lx) ?_
            | refine DW_V tabs rfl rfl rfl rfl (congrArg (AV.int _) ly) ?_
            | refine DW_Q tabs rfl rfl rfl rfl ?_
            | refine DW_nil ?_
            | refine DW_R tabOK rfl rfl rfl rfl rfl ?_
            | refine DW_E tabOK rfl rfl rfl rfl rfl ?_
            | refine DW_E0 tabOK rfl rfl rfl rfl rfl ?_
            | refine DW_no rfl rfl rfl ?_
            | refine DW_no0 rfl rfl rfl ?_
            | refine DW_lits tabOK rfl rfl rfl rfl rfl rfl rfl rfl rfl rfl rfl rfl rfl ?_
            | refine DW_append_own tabOK rfl rfl rfl rfl rfl rfl rfl rfl rfl rfl rfl rfl rfl rfl rfl (by simp; omega) (by simp; omega) ?_)
          | (show W _ _ _ _ _ _; first
            | refine W_seq ?_
            | refine W_text rfl (fun _ _ _ h => h) ?_
            | refine W_block ?_
            | refine W_skip ?_
            | refine W_exit ?_
            | refine W_ret ?_
            | refine W_true rfl ?_
            | refine W_false rfl ?_
            | refine W_cond rfl (fun _ => ?_) (fun _ => ?_)))
    refine DW_pure rfl rfl rfl rfl rfl diffs_ok ?_
    repeat' (first
          | (show DW _ _ _ _ _ _ _ _; first
            | refine DW_Q tabs rfl rfl rfl rfl ?_
            | refine DW_nil ?_
            | refine DW_R tabOK rfl rfl rfl rfl rfl ?_
            | refine DW_E tabOK rfl rfl rfl rfl rfl ?_
            | refine DW_E0 tabOK rfl rfl rfl rfl rfl ?_
            | refine DW_no rfl rfl rfl ?_
            | refine DW_no0 rfl rfl rfl ?_
            | refine DW_lits tabOK rfl rfl rfl rfl rfl rfl rfl rfl rfl rfl rfl rfl rfl ?_
            | refine DW_append_own tabOK rfl rfl rfl rfl rfl rfl rfl rfl rfl rfl rfl rfl rfl rfl rfl (by simp; omega) (by simp; omega) ?_)
          | (show W _ _ _ _ _ _; first
            | refine W_seq ?_
            | refine W_text rfl (fun _ _ _ h => h) ?_
            | refine W_block ?_
            | refine W_skip ?_
            | refine W_exit ?_
            | refine W_ret ?_
            | refine W_true rfl ?_
            | refine W_false rfl ?_
            | refine W_cond rfl (fun _ => ?_) (fun _ => ?_)))
    exact ⟨rfl, _, rfl, rfl, rfl⟩
  have d4 : decide ((60 : Int) < (y.length : Int)) = false := by simp; omega
  repeat' (first
        | (show DW _ _ _ _ _ _ _ _; first
          | refine DW_V tabs rfl rfl rfl rfl (congrArg AV.bool d3) ?_
          | refine DW_V tabs rfl rfl rfl rfl (congrArg AV.bool d4) ?_
          | refine DW_V tabs rfl rfl rfl rfl (congrArg (AV.int _) lx) ?_
          | refine DW_V tabs rfl rfl rfl rfl (congrArg (AV.int _) ly) ?_
          | refine DW_Q tabs rfl rfl rfl rfl ?_
          | refine DW_nil ?_
          | refine DW_R tabOK rfl rfl rfl rfl rfl ?_
          | refine DW_E tabOK rfl rfl rfl rfl rfl ?_
          | refine DW_E0 tabOK rfl rfl rfl rfl rfl ?_
          | refine DW_no rfl rfl rfl ?_
          | refine DW_no0 rfl rfl rfl ?_
          | refine DW_lits tabOK rfl rfl rfl rfl rfl rfl rfl rfl rfl rfl rfl rfl rfl ?_
          | refine DW_append_own tabOK rfl rfl rfl rfl rfl rfl rfl rfl rfl rfl rfl rfl rfl rfl rfl (by simp; omega) (by simp; omega) ?_)
        | (show W _ _ _ _ _ _; first
          | refine W_seq ?_
          | refine W_text rfl (fun _ _ _ h => h) ?_
          | refine W_block ?_
          | refine W_skip ?_
          | refine W_exit ?_
          | refine W_ret ?_
          | refine W_true rfl ?_
          | refine W_false rfl ?_
          | refine W_cond rfl (fun _ => ?_) (fun _ => ?_)))
  refine DW_call rfl rfl rfl rfl rfl rfl (rising5_ok a (by have := sa.1; omega) M) ?_ (by rintro u M' ⟨⟨r, e⟩, _⟩; cases e)
  rintro u M' ⟨⟨r, e⟩, rfl⟩
  cases e
  cases r
  case false =>
    repeat' (first
          | (show DW _ _ _ _ _ _ _ _; first
            | refine DW_Q tabs rfl rfl rfl rfl ?_
            | refine DW_nil ?_
            | refine DW_R tabOK rfl rfl rfl rfl rfl ?_
            | refine DW_E tabOK rfl rfl rfl rfl rfl ?_
            | refine DW_E0 tabOK rfl rfl rfl rfl rfl ?_
            | refine DW_no rfl rfl rfl ?_
            | refine DW_no0 rfl rfl rfl ?_
            | refine DW_lits tabOK rfl rfl rfl rfl rfl rfl rfl rfl rfl rfl rfl rfl rfl ?_
            | refine DW_append_own tabOK rfl rfl rfl rfl rfl rfl rfl rfl rfl rfl rfl rfl rfl rfl rfl (by simp; omega) (by simp; omega) ?_)
          | (show W _ _ _ _ _ _; first
            | refine W_seq ?_
            | refine W_text rfl (fun _ _ _ h => h) ?_
            | refine W_block ?_
            | refine W_skip ?_
            | refine W_exit ?_
            | refine W_ret ?_
            | refine W_true rfl ?_
            | refine W_false rfl ?_
            | refine W_cond rfl (fun _ => ?_) (fun _ => ?_)))
    refine DW_pure rfl rfl rfl rfl rfl diffs_ok ?_
    repeat' (first
          | (show DW _ _ _ _ _ _ _ _; first
            | refine DW_Q tabs rfl rfl rfl rfl ?_
            | refine DW_nil ?_
            | refine DW_R tabOK rfl rfl rfl rfl rfl ?_
            | refine DW_E tabOK rfl rfl rfl rfl rfl ?_
            | refine DW_E0 tabOK rfl rfl rfl rfl rfl ?_
            | refine DW_no rfl rfl rfl ?_
            | refine DW_no0 rfl rfl rfl ?_
            | refine DW_lits tabOK rfl rfl rfl rfl rfl rfl rfl rfl rfl rfl rfl rfl rfl ?_
            | refine DW_append_own tabOK rfl rfl rfl rfl rfl rfl rfl rfl rfl rfl rfl rfl rfl rfl rfl (by simp; omega) (by simp; omega) ?_)
          | (show W _ _ _ _ _ _; first
            | refine W_seq ?_
            | refine W_text rfl (fun _ _ _ h => h) ?_
            | refine W_block ?_
            | refine W_skip ?_
            | refine W_exit ?_
            | refine W_ret ?_
            | refine W_true rfl ?_
            | refine W_false rfl ?_
            | refine W_cond rfl (fun _ => ?_) (fun _ => ?_)))
    exact ⟨rfl, _, rfl, rfl, rfl⟩
  repeat' (first
        | (show DW _ _ _ _ _ _ _ _; first
          | refine DW_Q tabs rfl rfl rfl rfl ?_
          | refine DW_nil ?_
          | refine DW_R tabOK rfl rfl rfl rfl rfl ?_
          | refine DW_E tabOK rfl rfl rfl rfl rfl ?_
          | refine DW_E0 tabOK rfl rfl rfl rfl rfl ?_
          | refine DW_no rfl rfl rfl ?_
          | refine DW_no0 rfl rfl rfl ?_
          | refine DW_lits tabOK rfl rfl rfl rfl rfl rfl rfl rfl rfl rfl rfl rfl rfl ?_
          | refine DW_append_own tabOK rfl rfl rfl rfl rfl rfl rfl rfl rfl rfl rfl rfl rfl rfl rfl (by simp; omega) (by simp; omega) ?_)
        | (show W _ _ _ _ _ _; first
          | refine W_seq ?_
          | refine W_text rfl (fun _ _ _ h => h) ?_
          | refine W_block ?_
          | refine W_skip ?_
          | refine W_exit ?_
          | refine W_ret ?_
          | refine W_true rfl ?_
          | refine W_false rfl ?_
          | refine W_cond rfl (fun _ => ?_) (fun _ => ?_)))
  refine DW_call rfl rfl rfl rfl rfl rfl (rising5_ok b (by have := sb.1; omega) _) ?_ (by rintro u M' ⟨⟨r, e⟩, _⟩; cases e)
  rintro u M' ⟨⟨r, e⟩, rfl⟩
  cases e
  cases r
  case false =>
    repeat' (first
          | (show DW _ _ _ _ _ _ _ _; first
            | refine DW_Q tabs rfl rfl rfl rfl ?_
            | refine DW_nil ?_
            | refine DW_R tabOK rfl rfl rfl rfl rfl ?_
            | refine DW_E tabOK rfl rfl rfl rfl rfl ?_
            | refine DW_E0 tabOK rfl rfl rfl rfl rfl ?_
            | refine DW_no rfl rfl rfl ?_
            | refine DW_no0 rfl rfl rfl ?_
            | refine DW_lits tabOK rfl rfl rfl rfl rfl rfl rfl rfl rfl rfl rfl rfl rfl ?_
            | refine DW_append_own tabOK rfl rfl rfl rfl rfl rfl rfl rfl rfl rfl rfl rfl rfl rfl rfl (by simp; omega) (by simp; omega) ?_)
          | (show W _ _ _ _ _ _; first
            | refine W_seq ?_
            | refine W_text rfl (fun _ _ _ h => h) ?_
            | refine W_block ?_
            | refine W_skip ?_
            | refine W_exit ?_
            | refine W_ret ?_
            | refine W_true rfl ?_
            | refine W_false rfl ?_
            | refine W_cond rfl (fun _ => ?_) (fun _ => ?_)))
    refine DW_pure rfl rfl rfl rfl rfl diffs_ok ?_
    repeat' (first
          | (show DW _ _ _ _ _ _ _ _; first
            | refine DW_Q tabs rfl rfl rfl rfl ?_
            | refine DW_nil ?_
            | refine DW_R tabOK rfl rfl rfl rfl rfl ?_
            | refine DW_E tabOK rfl rfl rfl rfl rfl ?_
            | refine DW_E0 tabOK rfl rfl rfl rfl rfl ?_
            | refine DW_no rfl rfl rfl ?_
            | refine DW_no0 rfl rfl rfl ?_
            | refine DW_lits tabOK rfl rfl rfl rfl rfl rfl rfl rfl rfl rfl rfl rfl rfl ?_
            | refine DW_append_own tabOK rfl rfl rfl rfl rfl rfl rfl rfl rfl rfl rfl rfl rfl rfl rfl (by simp; omega) (by simp; omega) ?_)
          | (show W _ _ _ _ _ _; first
            | refine W_seq ?_
            | refine W_text rfl (fun _ _ _ h => h) ?_
            | refine W_block ?_
            | refine W_skip ?_
            | refine W_exit ?_
            | refine W_ret ?_
            | refine W_true rfl ?_
            | refine W_false rfl ?_
            | refine W_cond rfl (fun _ => ?_) (fun _ => ?_)))
    exact ⟨rfl, _, rfl, rfl, rfl⟩
  repeat' (first
        | (show DW _ _ _ _ _ _ _ _; first
          | refine DW_Q tabs rfl rfl rfl rfl ?_
          | refine DW_nil ?_
          | refine DW_R tabOK rfl rfl rfl rfl rfl ?_
          | refine DW_E tabOK rfl rfl rfl rfl rfl ?_
          | refine DW_E0 tabOK rfl rfl rfl rfl rfl ?_
          | refine DW_no rfl rfl rfl ?_
          | refine DW_no0 rfl rfl rfl ?_
          | refine DW_lits tabOK rfl rfl rfl rfl rfl rfl rfl rfl rfl rfl rfl rfl rfl ?_
          | refine DW_append_own tabOK rfl rfl rfl rfl rfl rfl rfl rfl rfl rfl rfl rfl rfl rfl rfl (by simp; omega) (by simp; omega) ?_)
        | (show W _ _ _ _ _ _; first
          | refine W_seq ?_
          | refine W_text rfl (fun _ _ _ h => h) ?_
          | refine W_block ?_
          | refine W_skip ?_
          | refine W_exit ?_
          | refine W_ret ?_
          | refine W_true rfl ?_
          | refine W_false rfl ?_
          | refine W_cond rfl (fun _ => ?_) (fun _ => ?_)))
  refine DW_call rfl rfl rfl rfl rfl rfl (rd6_ok x (by omega) _) ?_ (by rintro u M' ⟨⟨r, e, _⟩, _⟩; cases e)
  rintro u M' ⟨⟨r, e, hgx⟩, rfl⟩
  cases e
  cases r
  case false =>
    repeat' (first
          | (show DW _ _ _ _ _ _ _ _; first
            | refine DW_Q tabs rfl rfl rfl rfl ?_
            | refine DW_nil ?_
            | refine DW_R tabOK rfl rfl rfl rfl rfl ?_
            | refine DW_E tabOK rfl rfl rfl rfl rfl ?_
            | refine DW_E0 tabOK rfl rfl rfl rfl rfl ?_
            | refine DW_no rfl rfl rfl ?_
            | refine DW_no0 rfl rfl rfl ?_
            | refine DW_lits tabOK rfl rfl rfl rfl rfl rfl rfl rfl rfl rfl rfl rfl rfl ?_
            | refine DW_append_own tabOK rfl rfl rfl rfl rfl rfl rfl rfl rfl rfl rfl rfl rfl rfl rfl (by simp; omega) (by simp; omega) ?_)
          | (show W _ _ _ _ _ _; first
            | refine W_seq ?_
            | refine W_text rfl (fun _ _ _ h => h) ?_
            | refine W_block ?_
            | refine W_skip ?_
            | refine W_exit ?_
            | refine W_ret ?_
            | refine W_true rfl ?_
            | refine W_false rfl ?_
            | refine W_cond rfl (fun _ => ?_) (fun _ => ?_)))
    refine DW_pure rfl rfl rfl rfl rfl diffs_ok ?_
    repeat' (first
          | (show DW _ _ _ _ _ _ _ _; first
            | refine DW_Q tabs rfl rfl rfl rfl ?_
            | refine DW_nil ?_
            | refine DW_R tabOK rfl rfl rfl rfl rfl ?_
            | refine DW_E tabOK rfl rfl rfl rfl rfl ?_
            | refine DW_E0 tabOK rfl rfl rfl rfl rfl ?_
            | refine DW_no rfl rfl rfl ?_
            | refine DW_no0 rfl rfl rfl ?_
            | refine DW_lits tabOK rfl rfl rfl rfl rfl rfl rfl rfl rfl rfl rfl rfl rfl ?_
            | refine DW_append_own tabOK rfl rfl rfl rfl rfl rfl rfl rfl rfl rfl rfl rfl rfl rfl rfl (by simp; omega) (by simp; omega) ?_)
          | (show W _ _ _ _ _ _; first
            | refine W_seq ?_
            | refine W_text rfl (fun _ _ _ h => h) ?_
            | refine W_block ?_
            | refine W_skip ?_
            | refine W_exit ?_
            | refine W_ret ?_
            | refine W_true rfl ?_
            | refine W_false rfl ?_
            | refine W_cond rfl (fun _ => ?_) (fun _ => ?_)))
    exact ⟨rfl, _, rfl, rfl, rfl⟩
  repeat' (first
        | (show DW _ _ _ _ _ _ _ _; first
          | refine DW_Q tabs rfl rfl rfl rfl ?_
          | refine DW_nil ?_
          | refine DW_R tabOK rfl rfl rfl rfl rfl ?_
          | refine DW_E tabOK rfl rfl rfl rfl rfl ?_
          | refine DW_E0 tabOK rfl rfl rfl rfl rfl ?_
          | refine DW_no rfl rfl rfl ?_
          | refine DW_no0 rfl rfl rfl ?_
          | refine DW_lits tabOK rfl rfl rfl rfl rfl rfl rfl rfl rfl rfl rfl rfl rfl ?_
          | refine DW_append_own tabOK rfl rfl rfl rfl rfl rfl rfl rfl rfl rfl rfl rfl rfl rfl rfl (by simp; omega) (by simp; omega) ?_)
        | (show W _ _ _ _ _ _; first
          | refine W_seq ?_
          | refine W_text rfl (fun _ _ _ h => h) ?_
          | refine W_block ?_
          | refine W_skip ?_
          | refine W_exit ?_
          | refine W_ret ?_
          | refine W_true rfl ?_
          | refine W_false rfl ?_
          | refine W_cond rfl (fun _ => ?_) (fun _ => ?_)))
  refine DW_call rfl rfl rfl rfl rfl rfl (rd6_ok y (by omega) _) ?_ (by rintro u M' ⟨⟨r, e, _⟩, _⟩; cases e)
  rintro u M' ⟨⟨r, e, hgy⟩, rfl⟩
  cases e
  cases r
  case false =>
    repeat' (first
          | (show DW _ _ _ _ _ _ _ _; first
            | refine DW_Q tabs rfl rfl rfl rfl ?_
            | refine DW_nil ?_
            | refine DW_R tabOK rfl rfl rfl rfl rfl ?_
            | refine DW_E tabOK rfl rfl rfl rfl rfl ?_
            | refine DW_E0 tabOK rfl rfl rfl rfl rfl ?_
            | refine DW_no rfl rfl rfl ?_
            | refine DW_no0 rfl rfl rfl ?_
            | refine DW_lits tabOK rfl rfl rfl rfl rfl rfl rfl rfl rfl rfl rfl rfl rfl ?_
            | refine DW_append_own tabOK rfl rfl rfl rfl rfl rfl rfl rfl rfl rfl rfl rfl rfl rfl rfl (by simp; omega) (by simp; omega) ?_)
          | (show W _ _ _ _ _ _; first
            | refine W_seq ?_
            | refine W_text rfl (fun _ _ _ h => h) ?_
            | refine W_block ?_
            | refine W_skip ?_
            | refine W_exit ?_
            | refine W_ret ?_
            | refine W_true rfl ?_
            | refine W_false rfl ?_
            | refine W_cond rfl (fun _ => ?_) (fun _ => ?_)))
    refine DW_pure rfl rfl rfl rfl rfl diffs_ok ?_
    repeat' (first
          | (show DW _ _ _ _ _ _ _ _; first
            | refine DW_Q tabs rfl rfl rfl rfl ?_
            | refine DW_nil ?_
            | refine DW_R tabOK rfl rfl rfl rfl rfl ?_
            | refine DW_E tabOK rfl rfl rfl rfl rfl ?_
            | refine DW_E0 tabOK rfl rfl rfl rfl rfl ?_
            | refine DW_no rfl rfl rfl ?_
            | refine DW_no0 rfl rfl rfl ?_
            | refine DW_lits tabOK rfl rfl rfl rfl rfl rfl rfl rfl rfl rfl rfl rfl rfl ?_
            | refine DW_append_own tabOK rfl rfl rfl rfl rfl rfl rfl rfl rfl rfl rfl rfl rfl rfl rfl (by simp; omega) (by simp; omega) ?_)
          | (show W _ _ _ _ _ _; first
            | refine W_seq ?_
            | refine W_text rfl (fun _ _ _ h => h) ?_
            | refine W_block ?_
            | refine W_skip ?_
            | refine W_exit ?_
            | refine W_ret ?_
            | refine W_true rfl ?_
            | refine W_false rfl ?_
            | refine W_cond rfl (fun _ => ?_) (fun _ => ?_)))
    exact ⟨rfl, _, rfl, rfl, rfl⟩
  have gx : good x := ⟨by omega, hgx rfl⟩
  have gy : good y := ⟨by omega, hgy rfl⟩
  repeat' (first
        | (show DW _ _ _ _ _ _ _ _; first
          | refine DW_Q tabs rfl rfl rfl rfl ?_
          | refine DW_nil ?_
          | refine DW_R tabOK rfl rfl rfl rfl rfl ?_
          | refine DW_E tabOK rfl rfl rfl rfl rfl ?_
          | refine DW_E0 tabOK rfl rfl rfl rfl rfl ?_
          | refine DW_no rfl rfl rfl ?_
          | refine DW_no0 rfl rfl rfl ?_
          | refine DW_lits tabOK rfl rfl rfl rfl rfl rfl rfl rfl rfl rfl rfl rfl rfl ?_
          | refine DW_append_own tabOK rfl rfl rfl rfl rfl rfl rfl rfl rfl rfl rfl rfl rfl rfl rfl (by simp; omega) (by simp; omega) ?_)
        | (show W _ _ _ _ _ _; first
          | refine W_seq ?_
          | refine W_text rfl (fun _ _ _ h => h) ?_
          | refine W_block ?_
          | refine W_skip ?_
          | refine W_exit ?_
          | refine W_ret ?_
          | refine W_true rfl ?_
          | refine W_false rfl ?_
          | refine W_cond rfl (fun _ => ?_) (fun _ => ?_)))
  refine DW_pure rfl rfl rfl rfl rfl (own8_ok x (by omega)) ?_
  repeat' (first
        | (show DW _ _ _ _ _ _ _ _; first
          | refine DW_Q tabs rfl rfl rfl rfl ?_
          | refine DW_nil ?_
          | refine DW_R tabOK rfl rfl rfl rfl rfl ?_
          | refine DW_E tabOK rfl rfl rfl rfl rfl ?_
          | refine DW_E0 tabOK rfl rfl rfl rfl rfl ?_
          | refine DW_no rfl rfl rfl ?_
          | refine DW_no0 rfl rfl rfl ?_
          | refine DW_lits tabOK rfl rfl rfl rfl rfl rfl rfl rfl rfl rfl rfl rfl rfl ?_
          | refine DW_append_own tabOK rfl rfl rfl rfl rfl rfl rfl rfl rfl rfl rfl rfl rfl rfl rfl (by simp; omega) (by simp; omega) ?_)
        | (show W _ _ _ _ _ _; first
          | refine W_seq ?_
          | refine W_text rfl (fun _ _ _ h => h) ?_
          | refine W_block ?_
          | refine W_skip ?_
          | refine W_exit ?_
          | refine W_ret ?_
          | refine W_true rfl ?_
          | refine W_false rfl ?_
          | refine W_cond rfl (fun _ => ?_) (fun _ => ?_)))
  refine DW_pure rfl rfl rfl rfl rfl (own8_ok y (by omega)) ?_
  repeat' (first
        | (show DW _ _ _ _ _ _ _ _; first
          | refine DW_Q tabs rfl rfl rfl rfl ?_
          | refine DW_nil ?_
          | refine DW_R tabOK rfl rfl rfl rfl rfl ?_
          | refine DW_E tabOK rfl rfl rfl rfl rfl ?_
          | refine DW_E0 tabOK rfl rfl rfl rfl rfl ?_
          | refine DW_no rfl rfl rfl ?_
          | refine DW_no0 rfl rfl rfl ?_
          | refine DW_lits tabOK rfl rfl rfl rfl rfl rfl rfl rfl rfl rfl rfl rfl rfl ?_
          | refine DW_append_own tabOK rfl rfl rfl rfl rfl rfl rfl rfl rfl rfl rfl rfl rfl rfl rfl (by simp; omega) (by simp; omega) ?_)
        | (show W _ _ _ _ _ _; first
          | refine W_seq ?_
          | refine W_text rfl (fun _ _ _ h => h) ?_
          | refine W_block ?_
          | refine W_skip ?_
          | refine W_exit ?_
          | refine W_ret ?_
          | refine W_true rfl ?_
          | refine W_false rfl ?_
          | refine W_cond rfl (fun _ => ?_) (fun _ => ?_)))
  refine DW_pure rfl rfl rfl rfl rfl diffs_ok ?_
  repeat' (first
        | (show DW _ _ _ _ _ _ _ _; first
          | refine DW_Q tabs rfl rfl rfl rfl ?_
          | refine DW_nil ?_
          | refine DW_R tabOK rfl rfl rfl rfl rfl ?_
          | refine DW_E tabOK rfl rfl rfl rfl rfl ?_
          | refine DW_E0 tabOK rfl rfl rfl rfl rfl ?_
          | refine DW_no rfl rfl rfl ?_
          | refine DW_no0 rfl rfl rfl ?_
          | refine DW_lits tabOK rfl rfl rfl rfl rfl rfl rfl rfl rfl rfl rfl rfl rfl ?_
          | refine DW_append_own tabOK rfl rfl rfl rfl rfl rfl rfl rfl rfl rfl rfl rfl rfl rfl rfl (by simp; omega) (by simp; omega) ?_)
        | (show W _ _ _ _ _ _; first
          | refine W_seq ?_
          | refine W_text rfl (fun _ _ _ h => h) ?_
          | refine W_block ?_
          | refine W_skip ?_
          | refine W_exit ?_
          | refine W_ret ?_
          | refine W_true rfl ?_
          | refine W_false rfl ?_
          | refine W_cond rfl (fun _ => ?_) (fun _ => ?_)))
  refine DW_pure rfl rfl rfl rfl rfl (entries_ok a b sa sb) ?_
  repeat' (first
        | (show DW _ _ _ _ _ _ _ _; first
          | refine DW_Q tabs rfl rfl rfl rfl ?_
          | refine DW_nil ?_
          | refine DW_R tabOK rfl rfl rfl rfl rfl ?_
          | refine DW_E tabOK rfl rfl rfl rfl rfl ?_
          | refine DW_E0 tabOK rfl rfl rfl rfl rfl ?_
          | refine DW_no rfl rfl rfl ?_
          | refine DW_no0 rfl rfl rfl ?_
          | refine DW_lits tabOK rfl rfl rfl rfl rfl rfl rfl rfl rfl rfl rfl rfl rfl ?_
          | refine DW_append_own tabOK rfl rfl rfl rfl rfl rfl rfl rfl rfl rfl rfl rfl rfl rfl rfl (by simp; omega) (by simp; omega) ?_)
        | (show W _ _ _ _ _ _; first
          | refine W_seq ?_
          | refine W_text rfl (fun _ _ _ h => h) ?_
          | refine W_block ?_
          | refine W_skip ?_
          | refine W_exit ?_
          | refine W_ret ?_
          | refine W_true rfl ?_
          | refine W_false rfl ?_
          | refine W_cond rfl (fun _ => ?_) (fun _ => ?_)))
  refine DW_pure rfl rfl rfl rfl rfl (entries11_ok a b sa sb) ?_
  repeat' (first
        | (show DW _ _ _ _ _ _ _ _; first
          | refine DW_Q tabs rfl rfl rfl rfl ?_
          | refine DW_nil ?_
          | refine DW_R tabOK rfl rfl rfl rfl rfl ?_
          | refine DW_E tabOK rfl rfl rfl rfl rfl ?_
          | refine DW_E0 tabOK rfl rfl rfl rfl rfl ?_
          | refine DW_no rfl rfl rfl ?_
          | refine DW_no0 rfl rfl rfl ?_
          | refine DW_lits tabOK rfl rfl rfl rfl rfl rfl rfl rfl rfl rfl rfl rfl rfl ?_
          | refine DW_append_own tabOK rfl rfl rfl rfl rfl rfl rfl rfl rfl rfl rfl rfl rfl rfl rfl (by simp; omega) (by simp; omega) ?_)
        | (show W _ _ _ _ _ _; first
          | refine W_seq ?_
          | refine W_text rfl (fun _ _ _ h => h) ?_
          | refine W_block ?_
          | refine W_skip ?_
          | refine W_exit ?_
          | refine W_ret ?_
          | refine W_true rfl ?_
          | refine W_false rfl ?_
          | refine W_cond rfl (fun _ => ?_) (fun _ => ?_)))
  refine DW_pure rfl rfl rfl rfl rfl (same_ex _ _ _ _ (entries_len a b sa sb) rfl) ?_
  repeat' (first
        | (show DW _ _ _ _ _ _ _ _; first
          | refine DW_Q tabs rfl rfl rfl rfl ?_
          | refine DW_nil ?_
          | refine DW_R tabOK rfl rfl rfl rfl rfl ?_
          | refine DW_E tabOK rfl rfl rfl rfl rfl ?_
          | refine DW_E0 tabOK rfl rfl rfl rfl rfl ?_
          | refine DW_no rfl rfl rfl ?_
          | refine DW_no0 rfl rfl rfl ?_
          | refine DW_lits tabOK rfl rfl rfl rfl rfl rfl rfl rfl rfl rfl rfl rfl rfl ?_
          | refine DW_append_own tabOK rfl rfl rfl rfl rfl rfl rfl rfl rfl rfl rfl rfl rfl rfl rfl (by simp; omega) (by simp; omega) ?_)
        | (show W _ _ _ _ _ _; first
          | refine W_seq ?_
          | refine W_text rfl (fun _ _ _ h => h) ?_
          | refine W_block ?_
          | refine W_skip ?_
          | refine W_exit ?_
          | refine W_ret ?_
          | refine W_true rfl ?_
          | refine W_false rfl ?_
          | refine W_cond rfl (fun _ => ?_) (fun _ => ?_)))
  refine DW_pure rfl rfl rfl rfl rfl (back12_ok x (by omega)) ?_
  repeat' (first
        | (show DW _ _ _ _ _ _ _ _; first
          | refine DW_Q tabs rfl rfl rfl rfl ?_
          | refine DW_nil ?_
          | refine DW_R tabOK rfl rfl rfl rfl rfl ?_
          | refine DW_E tabOK rfl rfl rfl rfl rfl ?_
          | refine DW_E0 tabOK rfl rfl rfl rfl rfl ?_
          | refine DW_no rfl rfl rfl ?_
          | refine DW_no0 rfl rfl rfl ?_
          | refine DW_lits tabOK rfl rfl rfl rfl rfl rfl rfl rfl rfl rfl rfl rfl rfl ?_
          | refine DW_append_own tabOK rfl rfl rfl rfl rfl rfl rfl rfl rfl rfl rfl rfl rfl rfl rfl (by simp; omega) (by simp; omega) ?_)
        | (show W _ _ _ _ _ _; first
          | refine W_seq ?_
          | refine W_text rfl (fun _ _ _ h => h) ?_
          | refine W_block ?_
          | refine W_skip ?_
          | refine W_exit ?_
          | refine W_ret ?_
          | refine W_true rfl ?_
          | refine W_false rfl ?_
          | refine W_cond rfl (fun _ => ?_) (fun _ => ?_)))
  refine DW_pure rfl rfl rfl rfl rfl (back13_ok x (by omega)) ?_
  repeat' (first
        | (show DW _ _ _ _ _ _ _ _; first
          | refine DW_Q tabs rfl rfl rfl rfl ?_
          | refine DW_nil ?_
          | refine DW_R tabOK rfl rfl rfl rfl rfl ?_
          | refine DW_E tabOK rfl rfl rfl rfl rfl ?_
          | refine DW_E0 tabOK rfl rfl rfl rfl rfl ?_
          | refine DW_no rfl rfl rfl ?_
          | refine DW_no0 rfl rfl rfl ?_
          | refine DW_lits tabOK rfl rfl rfl rfl rfl rfl rfl rfl rfl rfl rfl rfl rfl ?_
          | refine DW_append_own tabOK rfl rfl rfl rfl rfl rfl rfl rfl rfl rfl rfl rfl rfl rfl rfl (by simp; omega) (by simp; omega) ?_)
        | (show W _ _ _ _ _ _; first
          | refine W_seq ?_
          | refine W_text rfl (fun _ _ _ h => h) ?_
          | refine W_block ?_
          | refine W_skip ?_
          | refine W_exit ?_
          | refine W_ret ?_
          | refine W_true rfl ?_
          | refine W_false rfl ?_
          | refine W_cond rfl (fun _ => ?_) (fun _ => ?_)))
  refine DW_pure rfl rfl rfl rfl rfl (same_ex _ _ _ _ (by simp; omega) rfl) ?_
  repeat' (first
        | (show DW _ _ _ _ _ _ _ _; first
          | refine DW_Q tabs rfl rfl rfl rfl ?_
          | refine DW_nil ?_
          | refine DW_R tabOK rfl rfl rfl rfl rfl ?_
          | refine DW_E tabOK rfl rfl rfl rfl rfl ?_
          | refine DW_E0 tabOK rfl rfl rfl rfl rfl ?_
          | refine DW_no rfl rfl rfl ?_
          | refine DW_no0 rfl rfl rfl ?_
          | refine DW_lits tabOK rfl rfl rfl rfl rfl rfl rfl rfl rfl rfl rfl rfl rfl ?_
          | refine DW_append_own tabOK rfl rfl rfl rfl rfl rfl rfl rfl rfl rfl rfl rfl rfl rfl rfl (by simp; omega) (by simp; omega) ?_)
        | (show W _ _ _ _ _ _; first
          | refine W_seq ?_
          | refine W_text rfl (fun _ _ _ h => h) ?_
          | refine W_block ?_
          | refine W_skip ?_
          | refine W_exit ?_
          | refine W_ret ?_
          | refine W_true rfl ?_
          | refine W_false rfl ?_
          | refine W_cond rfl (fun _ => ?_) (fun _ => ?_)))
  refine DW_pure rfl rfl rfl rfl rfl (then14_ok x y gx gy) ?_
  repeat' (first
        | (show DW _ _ _ _ _ _ _ _; first
          | refine DW_Q tabs rfl rfl rfl rfl ?_
          | refine DW_nil ?_
          | refine DW_R tabOK rfl rfl rfl rfl rfl ?_
          | refine DW_E tabOK rfl rfl rfl rfl rfl ?_
          | refine DW_E0 tabOK rfl rfl rfl rfl rfl ?_
          | refine DW_no rfl rfl rfl ?_
          | refine DW_no0 rfl rfl rfl ?_
          | refine DW_lits tabOK rfl rfl rfl rfl rfl rfl rfl rfl rfl rfl rfl rfl rfl ?_
          | refine DW_append_own tabOK rfl rfl rfl rfl rfl rfl rfl rfl rfl rfl rfl rfl rfl rfl rfl (by simp; omega) (by simp; omega) ?_)
        | (show W _ _ _ _ _ _; first
          | refine W_seq ?_
          | refine W_text rfl (fun _ _ _ h => h) ?_
          | refine W_block ?_
          | refine W_skip ?_
          | refine W_exit ?_
          | refine W_ret ?_
          | refine W_true rfl ?_
          | refine W_false rfl ?_
          | refine W_cond rfl (fun _ => ?_) (fun _ => ?_)))
  refine DW_pure rfl rfl rfl rfl rfl (then15_ok x y gx gy) ?_
  repeat' (first
        | (show DW _ _ _ _ _ _ _ _; first
          | refine DW_Q tabs rfl rfl rfl rfl ?_
          | refine DW_nil ?_
          | refine DW_R tabOK rfl rfl rfl rfl rfl ?_
          | refine DW_E tabOK rfl rfl rfl rfl rfl ?_
          | refine DW_E0 tabOK rfl rfl rfl rfl rfl ?_
          | refine DW_no rfl rfl rfl ?_
          | refine DW_no0 rfl rfl rfl ?_
          | refine DW_lits tabOK rfl rfl rfl rfl rfl rfl rfl rfl rfl rfl rfl rfl rfl ?_
          | refine DW_append_own tabOK rfl rfl rfl rfl rfl rfl rfl rfl rfl rfl rfl rfl rfl rfl rfl (by simp; omega) (by simp; omega) ?_)
        | (show W _ _ _ _ _ _; first
          | refine W_seq ?_
          | refine W_text rfl (fun _ _ _ h => h) ?_
          | refine W_block ?_
          | refine W_skip ?_
          | refine W_exit ?_
          | refine W_ret ?_
          | refine W_true rfl ?_
          | refine W_false rfl ?_
          | refine W_cond rfl (fun _ => ?_) (fun _ => ?_)))
  refine DW_pure rfl rfl rfl rfl rfl (same_ex _ _ _ _ (then_len x y gx gy) rfl) ?_
  repeat' (first
        | (show DW _ _ _ _ _ _ _ _; first
          | refine DW_Q tabs rfl rfl rfl rfl ?_
          | refine DW_nil ?_
          | refine DW_R tabOK rfl rfl rfl rfl rfl ?_
          | refine DW_E tabOK rfl rfl rfl rfl rfl ?_
          | refine DW_E0 tabOK rfl rfl rfl rfl rfl ?_
          | refine DW_no rfl rfl rfl ?_
          | refine DW_no0 rfl rfl rfl ?_
          | refine DW_lits tabOK rfl rfl rfl rfl rfl rfl rfl rfl rfl rfl rfl rfl rfl ?_
          | refine DW_append_own tabOK rfl rfl rfl rfl rfl rfl rfl rfl rfl rfl rfl rfl rfl rfl rfl (by simp; omega) (by simp; omega) ?_)
        | (show W _ _ _ _ _ _; first
          | refine W_seq ?_
          | refine W_text rfl (fun _ _ _ h => h) ?_
          | refine W_block ?_
          | refine W_skip ?_
          | refine W_exit ?_
          | refine W_ret ?_
          | refine W_true rfl ?_
          | refine W_false rfl ?_
          | refine W_cond rfl (fun _ => ?_) (fun _ => ?_)))
  refine DW_pure rfl rfl rfl rfl rfl (same_ex x x _ _ (by omega) rfl) ?_
  repeat' (first
        | (show DW _ _ _ _ _ _ _ _; first
          | refine DW_Q tabs rfl rfl rfl rfl ?_
          | refine DW_nil ?_
          | refine DW_R tabOK rfl rfl rfl rfl rfl ?_
          | refine DW_E tabOK rfl rfl rfl rfl rfl ?_
          | refine DW_E0 tabOK rfl rfl rfl rfl rfl ?_
          | refine DW_no rfl rfl rfl ?_
          | refine DW_no0 rfl rfl rfl ?_
          | refine DW_lits tabOK rfl rfl rfl rfl rfl rfl rfl rfl rfl rfl rfl rfl rfl ?_
          | refine DW_append_own tabOK rfl rfl rfl rfl rfl rfl rfl rfl rfl rfl rfl rfl rfl rfl rfl (by simp; omega) (by simp; omega) ?_)
        | (show W _ _ _ _ _ _; first
          | refine W_seq ?_
          | refine W_text rfl (fun _ _ _ h => h) ?_
          | refine W_block ?_
          | refine W_skip ?_
          | refine W_exit ?_
          | refine W_ret ?_
          | refine W_true rfl ?_
          | refine W_false rfl ?_
          | refine W_cond rfl (fun _ => ?_) (fun _ => ?_)))
  refine DW_pure rfl rfl rfl rfl rfl (same_ex y y _ _ (by omega) rfl) ?_
  repeat' (first
        | (show DW _ _ _ _ _ _ _ _; first
          | refine DW_Q tabs rfl rfl rfl rfl ?_
          | refine DW_nil ?_
          | refine DW_R tabOK rfl rfl rfl rfl rfl ?_
          | refine DW_E tabOK rfl rfl rfl rfl rfl ?_
          | refine DW_E0 tabOK rfl rfl rfl rfl rfl ?_
          | refine DW_no rfl rfl rfl ?_
          | refine DW_no0 rfl rfl rfl ?_
          | refine DW_lits tabOK rfl rfl rfl rfl rfl rfl rfl rfl rfl rfl rfl rfl rfl ?_
          | refine DW_append_own tabOK rfl rfl rfl rfl rfl rfl rfl rfl rfl rfl rfl rfl rfl rfl rfl (by simp; omega) (by simp; omega) ?_)
        | (show W _ _ _ _ _ _; first
          | refine W_seq ?_
          | refine W_text rfl (fun _ _ _ h => h) ?_
          | refine W_block ?_
          | refine W_skip ?_
          | refine W_exit ?_
          | refine W_ret ?_
          | refine W_true rfl ?_
          | refine W_false rfl ?_
          | refine W_cond rfl (fun _ => ?_) (fun _ => ?_)))
  exact ⟨rfl, _, rfl, rfl, rfl⟩
end Go.Proofs.Yteimhnedflbkmaa
