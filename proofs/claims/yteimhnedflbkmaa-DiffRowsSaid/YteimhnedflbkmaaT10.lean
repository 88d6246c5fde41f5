/- A step of the proof that the law holds: functions of the program, each shown to compute what its text says. No further condition. -/
import Derived.Test.YteimhnedflbkmaaT9
namespace Go.Proofs.Yteimhnedflbkmaa
open Go.Ab

theorem seen27_ab (a b : List Dl) (ta tb : Tag) (i k : Nat) (e e2 : Dl) (he : a[i]? = some e) (he2 : b[k]? = some e2) (h1 : goodK e.kind) (h2 : goodK e2.kind) (s : List Dl × Nat) (hs : s.1.length < 1000000000) :
    ACalls Try.prog 27 [.int .i64 i, .int .i64 k, .ptr 1 0, .ref [.sl 2 (b.map Dl.av) tb], .ref [.sl 2 (a.map Dl.av) ta], .ptr 0 0] (rowsT s) (fun r M => r = .ret (.tup []) ∧ (rowsT (if bothS e.kind e2.kind = 0 then s else more s ⟨e.path, bothS e.kind e2.kind⟩)).le M) := by
  obtain ⟨p, ka⟩ := e
  obtain ⟨q, kb⟩ := e2
  rcases h1 with h1 | h1 | h1 <;> rcases h2 with h2 | h2 | h2 <;> simp only at h1 h2 <;> subst h1 <;> subst h2
  · exact seen27_11 a b ta tb i k p q he he2 s hs
  · exact seen27_12 a b ta tb i k p q he he2 s hs
  · exact seen27_13 a b ta tb i k p q he he2 s hs
  · exact seen27_21 a b ta tb i k p q he he2 s hs
  · exact seen27_22 a b ta tb i k p q he he2 s hs
  · exact seen27_23 a b ta tb i k p q he he2 s hs
  · exact seen27_31 a b ta tb i k p q he he2 s hs
  · exact seen27_32 a b ta tb i k p q he he2 s hs
  · exact seen27_33 a b ta tb i k p q he he2 s hs

def thenS (a b : List Dl) (s : List Dl × Nat) : List Dl × Nat :=
  walkF a.length b.length (fun i => (a.getD i default).path) (fun i => (b.getD i default).path) (stepT a b) (a.length + b.length + 1) 0 0 s

set_option maxHeartbeats 1000000 in
theorem then14_ok (a b : List Dl) (ha : good a) (hb : good b) : APure Try.prog 14 [.sl 2 (a.map Dl.av) .none, .sl 2 (b.map Dl.av) .none] (.sl 2 ((thenS a b ([], 0)).1.map Dl.av) .none) := by
  refine pure_rows (closed2 (cl_dls a) (cl_dls b)) ?_
  refine acalls_of tabOK Try.func14 rfl (by decide) (by simp [Try.f14]) ?_
  refine W_seq ?_
  refine W_text rfl (fun _ _ _ h => h) ?_
  repeat (first
        | refine DW_Q tabs rfl rfl rfl rfl ?_
        | refine DW_R tabOK rfl rfl rfl rfl rfl ?_
        | refine DW_E tabOK rfl rfl rfl rfl rfl ?_
        | refine DW_E0 tabOK rfl rfl rfl rfl rfl ?_
        | refine DW_no rfl rfl rfl ?_
        | refine DW_no0 rfl rfl rfl ?_)
  refine DW_nil ?_
  refine W_seq ?_
  refine W_text rfl (fun _ _ _ h => h) ?_
  refine DW_pure rfl rfl rfl rfl rfl behind24_ok ?_
  repeat (first
        | refine DW_Q tabs rfl rfl rfl rfl ?_
        | refine DW_R tabOK rfl rfl rfl rfl rfl ?_
        | refine DW_E tabOK rfl rfl rfl rfl rfl ?_
        | refine DW_E0 tabOK rfl rfl rfl rfl rfl ?_
        | refine DW_no rfl rfl rfl ?_
        | refine DW_no0 rfl rfl rfl ?_)
  refine DW_nil ?_
  refine W_seq ?_
  refine W_text rfl (fun _ _ _ h => h) ?_
  repeat (first
        | refine DW_Q tabs rfl rfl rfl rfl ?_
        | refine DW_R tabOK rfl rfl rfl rfl rfl ?_
        | refine DW_E tabOK rfl rfl rfl rfl rfl ?_
        | refine DW_E0 tabOK rfl rfl rfl rfl rfl ?_
        | refine DW_no rfl rfl rfl ?_
        | refine DW_no0 rfl rfl rfl ?_)
  refine DW_nil ?_
  refine W_ghost ((Joint.tokM 1 0 rfl rfl (sz' := 2) (.inr rfl)).trans (Joint.le (g := ⟨[(2, .ref [.sl 2 (a.map Dl.av) .none]), (3, .ref [.sl 2 (b.map Dl.av) .none]), (5, .ptr 0 0), (6, .ptr 1 0)], []⟩) (N := rowsT ([], 0)) ?_ ?_)) ?_
  · skip
    repeat (refine AF.le_cons rfl ?_)
    exact AF.le_nil rfl
  · exact Mem.le_cons rfl (Mem.le_cons rfl (Mem.le_cons rfl (Mem.le_nil rfl)))
  have la : ((a.map Dl.av).length : Int) = (a.length : Int) := by simp
  have lb : ((b.map Dl.av).length : Int) = (b.length : Int) := by simp
  have gA : ∀ i, i < a.length → a[i]? = some (a.getD i default) := fun i h => by simp [List.getD, h]
  have gB : ∀ i, i < b.length → b[i]? = some (b.getD i default) := fun i h => by simp [List.getD, h]
  repeat' (first
        | (show DW _ _ _ _ _ _ _ _; first
          | refine DW_V tabs rfl rfl rfl rfl (congrArg (AV.int _) la) ?_
          | refine DW_V tabs rfl rfl rfl rfl (congrArg (AV.int _) lb) ?_
          | refine DW_Q tabs rfl rfl rfl rfl ?_
          | refine DW_nil ?_
          | refine DW_R tabOK rfl rfl rfl rfl rfl ?_
          | refine DW_E tabOK rfl rfl rfl rfl rfl ?_
          | refine DW_E0 tabOK rfl rfl rfl rfl rfl ?_
          | refine DW_no rfl rfl rfl ?_
          | refine DW_no0 rfl rfl rfl ?_
          | refine DW_lits tabOK rfl rfl rfl rfl rfl rfl rfl rfl rfl rfl rfl rfl rfl ?_
          | refine DW_append_own tabOK rfl rfl rfl rfl rfl rfl rfl rfl rfl rfl rfl rfl rfl rfl rfl (by simp; omega) (by simp; omega) ?_)
        | (show W _ _ _ _ _ _; first
          | refine W_seq ?_
          | refine W_text rfl (fun _ _ _ h => h) ?_
          | refine W_block ?_
          | refine W_skip ?_
          | refine W_exit ?_
          | refine W_ret ?_
          | refine W_true rfl ?_
          | refine W_false rfl ?_
          | refine W_cond rfl (fun _ => ?_) (fun _ => ?_)))
  refine DW_call rfl rfl rfl rfl rfl rfl (walk_ok rowsT (fun s i k => s.1.length ≤ i + k ∧ i ≤ a.length ∧ k ≤ b.length) (stepT a b) a.length b.length (by have := ha.1; omega) (by have := hb.1; omega) (fun i => (a.getD i default).path) (fun i => (b.getD i default).path) 25 26 27
    [.ref [.sl 2 (a.map Dl.av) .none]] [.ref [.sl 2 (b.map Dl.av) .none]] [.ptr 1 0, .ref [.sl 2 (b.map Dl.av) .none], .ref [.sl 2 (a.map Dl.av) .none], .ptr 0 0]
    (fun i hi => path25_ok a _ i _ (gA i hi)) (fun i hi => path26_ok b _ i _ (gB i hi)) ?_ ?_ ?_ ([], 0) ⟨by simp, by simp, by simp⟩) ?_ ?_
  · intro s i k hJ hi
    have := ha.1
    have := hb.1
    have h0 : ¬ ((i : Int) < 0) := by omega
    have e : stepT a b s i (-1) = more s (a.getD i default) := by simp only [stepT, if_neg h0, Int.toNat_natCast]; rfl
    rw [e]
    exact ⟨jret (Nat.le_refl _) (seen27_a a b _ _ i _ (gA i hi) s (by omega)), by simp [more]; omega, by omega, by omega⟩
  · intro s i k hJ hk
    have := ha.1
    have := hb.1
    have e : stepT a b s (-1) k = more s (b.getD k default) := by simp [stepT]
    rw [e]
    exact ⟨jret (Nat.le_refl _) (seen27_b a b _ _ k _ (gB k hk) s (by omega)), by simp [more]; omega, by omega, by omega⟩
  · intro s i k hJ hi hk
    have := ha.1
    have := hb.1
    have e : stepT a b s i k = if bothS (a.getD i default).kind (b.getD k default).kind = 0 then s else more s ⟨(a.getD i default).path, bothS (a.getD i default).kind (b.getD k default).kind⟩ := by
      have h1 : ¬ ((i : Int) < 0) := by omega
      have h2 : ¬ ((k : Int) < 0) := by omega
      simp only [stepT, if_neg h1, if_neg h2, Int.toNat_natCast]
    rw [e]
    refine ⟨jret (Nat.le_refl _) (seen27_ab a b _ _ i k _ _ (gA i hi) (gB k hk) (ha.2 _ (List.mem_of_getElem? (gA i hi))) (hb.2 _ (List.mem_of_getElem? (gB k hk))) s (by omega)), ?_, by omega, by omega⟩
    split
    · omega
    · simp [more]; omega
  · rintro u M' ⟨e, rfl⟩
    cases e
    repeat' (first
          | (show DW _ _ _ _ _ _ _ _; first
            | refine DW_Q tabs rfl rfl rfl rfl ?_
            | refine DW_nil ?_
            | refine DW_R tabOK rfl rfl rfl rfl rfl ?_
            | refine DW_E tabOK rfl rfl rfl rfl rfl ?_
            | refine DW_E0 tabOK rfl rfl rfl rfl rfl ?_
            | refine DW_no rfl rfl rfl ?_
            | refine DW_no0 rfl rfl rfl ?_
            | refine DW_lits tabOK rfl rfl rfl rfl rfl rfl rfl rfl rfl rfl rfl rfl rfl ?_
            | refine DW_append_own tabOK rfl rfl rfl rfl rfl rfl rfl rfl rfl rfl rfl rfl rfl rfl rfl (by simp; omega) (by simp; omega) ?_)
          | (show W _ _ _ _ _ _; first
            | refine W_seq ?_
            | refine W_text rfl (fun _ _ _ h => h) ?_
            | refine W_block ?_
            | refine W_skip ?_
            | refine W_exit ?_
            | refine W_ret ?_
            | refine W_true rfl ?_
            | refine W_false rfl ?_
            | refine W_cond rfl (fun _ => ?_) (fun _ => ?_)))
    exact ⟨rfl, _, rfl, _, _, rfl⟩
  · rintro u M' ⟨e, _⟩
    cases e
end Go.Proofs.Yteimhnedflbkmaa
