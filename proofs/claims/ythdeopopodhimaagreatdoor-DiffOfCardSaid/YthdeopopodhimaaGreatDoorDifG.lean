/- Rows of deltas: Then of the code. No further condition. -/
import Derived.Test.YthdeopopodhimaaGreatDoorDifF
set_option linter.unusedVariables false
set_option linter.unusedSimpArgs false
namespace Go.Proofs.YthdeopopodhimaaGreatDoor
open Go.Ab

def tblA : List AV := [iv 0, iv 0, iv 0, iv 0, iv 0, iv 1, iv 1, iv 0, iv 0, iv 2, iv 2, iv 3, iv 0, iv 2, iv 3, iv 3]
theorem closed_tbl : ∀ x, x ∈ tblA → Closed x := closed_ivs (by
  intro x hx
  simp only [tblA, List.mem_cons, List.not_mem_nil, or_false] at hx
  rcases hx with h | h | h | h | h | h | h | h | h | h | h | h | h | h | h | h <;> exact ⟨_, h⟩)
set_option maxRecDepth 100000 in
set_option maxHeartbeats 8000000 in
theorem dbehind_ok : APure Tryz.prog 99 [] (.agg tblA) := by
  refine pure_sub (closedL_nil) (closed_agg closed_tbl) ?_
  refine acalls_of tabOK Tryz.func99 rfl (by decide) (by simp [Tryz.f99]) ?_
  repeat' (first | refine DW_box 0 tabOK rfl ?_ | refine DW_A tabs rfl ?_ | refine DW_nil ?_ | refine W_A rfl ?_)
  exact ⟨rfl, _, rfl, _, rfl, SubC.of_closed (closed_agg closed_tbl)⟩
set_option maxRecDepth 100000 in
set_option maxHeartbeats 8000000 in
theorem tpath1_ok (l : List Dl) (t : Tag) (i : Nat) (e : Dl) (he : l[i]? = some e) : APure Tryz.prog 100 [.int .i64 (i : Int), .ref [dlA l t]] (.str e.path) := by
  intro M
  refine acalls_of tabOK Tryz.func100 rfl (by decide) (by simp [Tryz.f100]) ?_
  unfold dlA
  repeat' (first | refine DW_A tabs rfl ?_ | refine DW_nil ?_ | refine W_A rfl ?_ | refine DW_ix tabOK rfl (ixN he) ?_)
  exact ⟨rfl, _, rfl, rfl, rfl⟩
set_option maxRecDepth 100000 in
set_option maxHeartbeats 8000000 in
theorem tpath2_ok (l : List Dl) (t : Tag) (i : Nat) (e : Dl) (he : l[i]? = some e) : APure Tryz.prog 101 [.int .i64 (i : Int), .ref [dlA l t]] (.str e.path) := by
  intro M
  refine acalls_of tabOK Tryz.func101 rfl (by decide) (by simp [Tryz.f101]) ?_
  unfold dlA
  repeat' (first | refine DW_A tabs rfl ?_ | refine DW_nil ?_ | refine W_A rfl ?_ | refine DW_ix tabOK rfl (ixN he) ?_)
  exact ⟨rfl, _, rfl, rfl, rfl⟩
def rowsT (s : List Dl × Nat) : Mem := ⟨3, [(0, .cells tblA), (1, .cells [dlA s.1 (.tok 2 s.2)]), (2, .spare s.2)]⟩
theorem rowsT_of {s : List Dl × Nat} {d : Dl} {M : Mem} (hn : 3 = M.next) (h2 : M.get 0 = some (.cells tblA)) (h0 : M.get 1 = some (.cells [.sl 2 (s.1.map Dl.av ++ [d.av]) (.tok 2 (s.2 + 1))])) (h1 : M.get 2 = some (.spare (s.2 + 1))) : (rowsT (more s d)).le M := by
  unfold rowsT more
  have e : dlA (s.1 ++ [d]) (.tok 2 (s.2 + 1)) = .sl 2 (s.1.map Dl.av ++ [d.av]) (.tok 2 (s.2 + 1)) := by simp [dlA]
  rw [e]
  exact Mem.le_cons h2 (Mem.le_cons h0 (Mem.le_cons h1 (Mem.le_nil hn)))
set_option maxRecDepth 100000 in
set_option maxHeartbeats 8000000 in
theorem tseen_b (a b : List Dl) (ta tb : Tag) (k : Nat) (e : Dl) (he : b[k]? = some e) (s : List Dl × Nat) (hs : s.1.length < 1000000000) : ACalls Tryz.prog 102 [.int .i64 (-1), .int .i64 (k : Int), .ptr 1 0, .ref [dlA b tb], .ref [dlA a ta], .ptr 0 0] (rowsT s) ((fun r M => r = .ret (.tup []) ∧ (rowsT (more s e)).le M)) := by
  refine acalls_of tabOK Tryz.func102 rfl (by decide) (by simp [Tryz.f102]) ?_
  unfold dlA rowsT dlA
  have la := len_map Dl.av s.1
  repeat' (first | refine DW_VI tabs rfl la ?_ | refine DW_A tabs rfl ?_ | refine DW_nil ?_ | refine W_A rfl ?_ | refine DW_ix tabOK rfl (ixN he) ?_ | refine DW_row tabOK rfl ?_ | refine DW_app tabOK rfl rfl (by simp; omega) (by simp; omega) ?_ | refine DW_app0 tabOK rfl (by simp; omega) (by simp; omega) ?_ | refine W_draw mixed [2, 0, 1, 3, 4, 5, 6, 7] [.R, .R, .P, .R, .R, .P, .E, .E] rfl rfl (by kernel_rfl) ?_ | refine W_draw mixed [1, 6, 0, 2, 3, 4, 5, 7, 8, 9, 10, 11, 12, 13, 14] [.R, .P, .R, .R, .R, .R, .P, .R, .R, .R, .R, .R, .R, .P, .P] rfl rfl (by kernel_rfl) ?_ | refine W_draw mixed [2, 7, 12, 0, 1, 3, 4, 5, 6, 8, 9, 10, 11, 13, 14, 15, 16, 17, 18, 19, 20, 21, 22] [.R, .R, .P, .R, .R, .R, .R, .P, .R, .R, .R, .R, .P, .R, .R, .R, .R, .R, .R, .P, .P, .E, .E] rfl rfl (by kernel_rfl) ?_)
  exact ⟨rfl, _, rfl, rfl, rowsT_of rfl rfl rfl rfl⟩
set_option maxRecDepth 100000 in
set_option maxHeartbeats 8000000 in
theorem tseen_a (a b : List Dl) (ta tb : Tag) (i : Nat) (e : Dl) (he : a[i]? = some e) (s : List Dl × Nat) (hs : s.1.length < 1000000000) : ACalls Tryz.prog 102 [.int .i64 (i : Int), .int .i64 (-1), .ptr 1 0, .ref [dlA b tb], .ref [dlA a ta], .ptr 0 0] (rowsT s) ((fun r M => r = .ret (.tup []) ∧ (rowsT (more s e)).le M)) := by
  refine acalls_of tabOK Tryz.func102 rfl (by decide) (by simp [Tryz.f102]) ?_
  have d1 : decide ((i : Int) < 0) = false := decide_eq_false (by omega)
  unfold dlA rowsT dlA
  have la := len_map Dl.av s.1
  repeat' (first | refine DW_VB tabs rfl d1 ?_ | refine DW_VI tabs rfl la ?_ | refine DW_A tabs rfl ?_ | refine DW_nil ?_ | refine W_A rfl ?_ | refine DW_ix tabOK rfl (ixN he) ?_ | refine DW_row tabOK rfl ?_ | refine DW_app tabOK rfl rfl (by simp; omega) (by simp; omega) ?_ | refine DW_app0 tabOK rfl (by simp; omega) (by simp; omega) ?_ | refine W_draw mixed [2, 0, 1, 3, 4, 5, 6, 7] [.R, .R, .P, .R, .R, .P, .E, .E] rfl rfl (by kernel_rfl) ?_ | refine W_draw mixed [1, 6, 0, 2, 3, 4, 5, 7, 8, 9, 10, 11, 12, 13, 14] [.R, .P, .R, .R, .R, .R, .P, .R, .R, .R, .R, .R, .R, .P, .P] rfl rfl (by kernel_rfl) ?_ | refine W_draw mixed [2, 7, 12, 0, 1, 3, 4, 5, 6, 8, 9, 10, 11, 13, 14, 15, 16, 17, 18, 19, 20, 21, 22] [.R, .R, .P, .R, .R, .R, .R, .P, .R, .R, .R, .R, .P, .R, .R, .R, .R, .R, .R, .P, .P, .E, .E] rfl rfl (by kernel_rfl) ?_)
  exact ⟨rfl, _, rfl, rfl, rowsT_of rfl rfl rfl rfl⟩
set_option maxRecDepth 100000 in
set_option maxHeartbeats 8000000 in
theorem tseen_ab (a b : List Dl) (ta tb : Tag) (i k : Nat) (e e2 : Dl) (he : a[i]? = some e) (he2 : b[k]? = some e2) (h1 : goodK e.kind) (h2 : goodK e2.kind) (s : List Dl × Nat) (hs : s.1.length < 1000000000) : ACalls Tryz.prog 102 [.int .i64 (i : Int), .int .i64 (k : Int), .ptr 1 0, .ref [dlA b tb], .ref [dlA a ta], .ptr 0 0] (rowsT s) ((fun r M => r = .ret (.tup []) ∧ (rowsT (if bothS e.kind e2.kind = 0 then s else more s ⟨e.path, bothS e.kind e2.kind⟩)).le M)) := by
  refine acalls_of tabOK Tryz.func102 rfl (by decide) (by simp [Tryz.f102]) ?_
  have d1 : decide ((i : Int) < 0) = false := decide_eq_false (by omega)
  have d2 : decide ((k : Int) < 0) = false := decide_eq_false (by omega)
  have k1 := known_yes h1
  have k2 := known_yes h2
  have la := len_map Dl.av s.1
  obtain ⟨p, x⟩ := e
  obtain ⟨q, y⟩ := e2
  unfold dlA rowsT dlA tblA
  rcases h1 with h1 | h1 | h1 <;> rcases h2 with h2 | h2 | h2 <;> simp only at h1 h2 <;> subst h1 <;> subst h2
  repeat' (first | refine DW_VB tabs rfl (by first | exact d1 | exact d2) ?_ | refine DW_VI tabs rfl la ?_ | refine DW_A tabs rfl ?_ | refine DW_nil ?_ | refine W_A rfl ?_ | refine DW_C rfl k1 ?_ | refine DW_C rfl k2 ?_ | refine DW_ix tabOK rfl (ixN he) ?_ | refine DW_ix tabOK rfl (ixN he2) ?_ | refine DW_row tabOK rfl ?_ | refine DW_app tabOK rfl rfl (by simp; omega) (by simp; omega) ?_ | refine DW_app0 tabOK rfl (by simp; omega) (by simp; omega) ?_ | refine W_draw mixed [2, 0, 1, 3, 4, 5, 6, 7] [.R, .R, .P, .R, .R, .P, .E, .E] rfl rfl (by kernel_rfl) ?_ | refine W_draw mixed [1, 6, 0, 2, 3, 4, 5, 7, 8, 9, 10, 11, 12, 13, 14] [.R, .P, .R, .R, .R, .R, .P, .R, .R, .R, .R, .R, .R, .P, .P] rfl rfl (by kernel_rfl) ?_ | refine W_draw mixed [2, 7, 12, 0, 1, 3, 4, 5, 6, 8, 9, 10, 11, 13, 14, 15, 16, 17, 18, 19, 20, 21, 22] [.R, .R, .P, .R, .R, .R, .R, .P, .R, .R, .R, .R, .P, .R, .R, .R, .R, .R, .R, .P, .P, .E, .E] rfl rfl (by kernel_rfl) ?_)
  · exact ⟨rfl, _, rfl, rfl, rowsT_of rfl rfl rfl rfl⟩
  · exact ⟨rfl, _, rfl, rfl, rowsT_of rfl rfl rfl rfl⟩
  · exact ⟨rfl, _, rfl, rfl, Mem.le_refl _⟩
  · exact ⟨rfl, _, rfl, rfl, rowsT_of rfl rfl rfl rfl⟩
  · exact ⟨rfl, _, rfl, rfl, rowsT_of rfl rfl rfl rfl⟩
  · exact ⟨rfl, _, rfl, rfl, rowsT_of rfl rfl rfl rfl⟩
  · exact ⟨rfl, _, rfl, rfl, rowsT_of rfl rfl rfl rfl⟩
  · exact ⟨rfl, _, rfl, rfl, rowsT_of rfl rfl rfl rfl⟩
  · exact ⟨rfl, _, rfl, rfl, rowsT_of rfl rfl rfl rfl⟩
theorem walkT_ok (a b : List Dl) (ha : good a) (hb : good b) : ACalls Tryz.prog 92 [.int .i64 (a.length : Int), .int .i64 (b.length : Int), .fn (.func 100) [] [.ref [dlA a .none]], .fn (.func 101) [] [.ref [dlA b .none]], .fn (.func 102) [] [.ptr 1 0, .ref [dlA b .none], .ref [dlA a .none], .ptr 0 0]] (rowsT ([], 0)) (fun e M => e = .ret (.tup []) ∧ M = rowsT (thenS a b ([], 0))) := by
  have gA : ∀ i, i < a.length → a[i]? = some (a.getD i default) := fun i h => by simp [List.getD, h]
  have gB : ∀ i, i < b.length → b[i]? = some (b.getD i default) := fun i h => by simp [List.getD, h]
  refine walk_ok rowsT (fun s i k => s.1.length ≤ i + k ∧ i ≤ a.length ∧ k ≤ b.length) (stepT a b) a.length b.length (by have := ha.1; omega) (by have := hb.1; omega) (fun i => (a.getD i default).path) (fun i => (b.getD i default).path) 100 101 102 [.ref [dlA a .none]] [.ref [dlA b .none]] [.ptr 1 0, .ref [dlA b .none], .ref [dlA a .none], .ptr 0 0] (fun i hi => tpath1_ok a _ i _ (gA i hi)) (fun i hi => tpath2_ok b _ i _ (gB i hi)) ?_ ?_ ?_ ([], 0) ⟨by simp, by simp, by simp⟩
  · intro s i k hJ hi
    have := ha.1
    have := hb.1
    have h0 : ¬ ((i : Int) < 0) := by omega
    have e : stepT a b s i (-1) = more s (a.getD i default) := by simp only [stepT, if_neg h0, Int.toNat_natCast]; rfl
    rw [e]
    exact ⟨jret (tseen_a a b _ _ i _ (gA i hi) s (by omega)), by simp [more]; omega, by omega, by omega⟩
  · intro s i k hJ hk
    have := ha.1
    have := hb.1
    have e : stepT a b s (-1) k = more s (b.getD k default) := by simp [stepT]
    rw [e]
    exact ⟨jret (tseen_b a b _ _ k _ (gB k hk) s (by omega)), by simp [more]; omega, by omega, by omega⟩
  · intro s i k hJ hi hk
    have := ha.1
    have := hb.1
    have e : stepT a b s i k = if bothS (a.getD i default).kind (b.getD k default).kind = 0 then s else more s ⟨(a.getD i default).path, bothS (a.getD i default).kind (b.getD k default).kind⟩ := by
      have h1 : ¬ ((i : Int) < 0) := by omega
      have h2 : ¬ ((k : Int) < 0) := by omega
      simp only [stepT, if_neg h1, if_neg h2, Int.toNat_natCast]
    rw [e]
    refine ⟨jret (tseen_ab a b _ _ i k _ _ (gA i hi) (gB k hk) (ha.2 _ (List.mem_of_getElem? (gA i hi))) (hb.2 _ (List.mem_of_getElem? (gB k hk))) s (by omega)), ?_, by omega, by omega⟩
    split
    · omega
    · simp [more]; omega
end Go.Proofs.YthdeopopodhimaaGreatDoor
