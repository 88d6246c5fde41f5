/- Rows of deltas: Entries. No further condition. -/
import Derived.Test.YthdeopopodhimaaGreatDoorDifA
import Derived.Test.YthdeopopodhimaaGreatDoorV22
set_option linter.unusedVariables false
set_option linter.unusedSimpArgs false
namespace Go.Proofs.YthdeopopodhimaaGreatDoor
open Go.Ab

structure Dl where
  path : Bytes
  kind : Int
deriving DecidableEq
def Dl.av (d : Dl) : AV := .agg [.str d.path, .int .i64 d.kind]
instance : Inhabited En := ⟨zeroEn⟩
instance : Inhabited Dl := ⟨⟨[], 0⟩⟩
theorem closed_dl (d : Dl) : Closed d.av := closed_agg (closed2 closed_str closed_int)
def dlA (l : List Dl) (t : Tag) : AV := .sl 2 (l.map Dl.av) t
theorem closed_dls (l : List Dl) : Closed (dlA l .none) := closed_slmap (fun d => closed_dl d) (fun d c hc => by
  have : c ∈ [AV.str d.path, .int .i64 d.kind] := hc
  exact closed2 closed_str closed_int c this)
set_option maxRecDepth 100000 in
set_option maxHeartbeats 8000000 in
theorem path1_ok (l : List En) (t : Tag) (i : Nat) (e : En) (he : l[i]? = some e) : APure Tryz.prog 93 [.int .i64 (i : Int), .ref [ensA l t]] (.str e.path) := by
  intro M
  refine acalls_of tabOK Tryz.func93 rfl (by decide) (by simp [Tryz.f93]) ?_
  unfold ensA
  repeat' (first | refine DW_A tabs rfl ?_ | refine DW_nil ?_ | refine W_A rfl ?_ | refine DW_ix tabOK rfl (ixN he) ?_)
  exact ⟨rfl, _, rfl, rfl, rfl⟩
set_option maxRecDepth 100000 in
set_option maxHeartbeats 8000000 in
theorem path2_ok (l : List En) (t : Tag) (i : Nat) (e : En) (he : l[i]? = some e) : APure Tryz.prog 94 [.int .i64 (i : Int), .ref [ensA l t]] (.str e.path) := by
  intro M
  refine acalls_of tabOK Tryz.func94 rfl (by decide) (by simp [Tryz.f94]) ?_
  unfold ensA
  repeat' (first | refine DW_A tabs rfl ?_ | refine DW_nil ?_ | refine W_A rfl ?_ | refine DW_ix tabOK rfl (ixN he) ?_)
  exact ⟨rfl, _, rfl, rfl, rfl⟩
/-- What the rows' memory holds. -/
def rows (s : List Dl × Nat) : Mem := ⟨2, [(0, .cells [dlA s.1 (.tok 1 s.2)]), (1, .spare s.2)]⟩
def more (s : List Dl × Nat) (d : Dl) : List Dl × Nat := (s.1 ++ [d], s.2 + 1)
theorem dl_app (l : List Dl) (d : Dl) (g : Nat) : dlA (l ++ [d]) (.tok 1 g) = .sl 2 (l.map Dl.av ++ [d.av]) (.tok 1 g) := by simp [dlA]
theorem rows_of {s : List Dl × Nat} {d : Dl} {M : Mem} (hn : 2 = M.next) (h0 : M.get 0 = some (.cells [.sl 2 (s.1.map Dl.av ++ [d.av]) (.tok 1 (s.2 + 1))])) (h1 : M.get 1 = some (.spare (s.2 + 1))) : (rows (more s d)).le M := by
  unfold rows more
  rw [dl_app]
  exact Mem.le_cons h0 (Mem.le_cons h1 (Mem.le_nil hn))
set_option maxRecDepth 100000 in
set_option maxHeartbeats 8000000 in
theorem seen_b (a b : List En) (ta tb : Tag) (k : Nat) (e : En) (he : b[k]? = some e) (s : List Dl × Nat) (hs : s.1.length < 1000000000) : ACalls Tryz.prog 95 [.int .i64 (-1), .int .i64 (k : Int), .ptr 0 0, .ref [ensA b tb], .ref [ensA a ta]] (rows s) ((fun r M => r = .ret (.tup []) ∧ (rows (more s ⟨e.path, 1⟩)).le M)) := by
  refine acalls_of tabOK Tryz.func95 rfl (by decide) (by simp [Tryz.f95]) ?_
  unfold ensA rows dlA
  have la := len_map Dl.av s.1
  repeat' (first | refine DW_VI tabs rfl la ?_ | refine DW_A tabs rfl ?_ | refine DW_nil ?_ | refine W_A rfl ?_ | refine DW_ix tabOK rfl (ixN he) ?_ | refine DW_row tabOK rfl ?_ | refine DW_app tabOK rfl rfl (by simp; omega) (by simp; omega) ?_ | refine DW_app0 tabOK rfl (by simp; omega) (by simp; omega) ?_ | refine W_draw mixed [2, 0, 1, 3, 4, 5, 6, 7, 8, 9] [.R, .R, .P, .R, .R, .R, .P, .P, .E, .E] rfl rfl (by kernel_rfl) ?_ | refine W_draw mixed [1, 6, 0, 2, 3, 4, 5, 7, 8, 9, 10, 11, 12] [.R, .P, .R, .R, .R, .R, .P, .R, .R, .R, .P, .P, .P] rfl rfl (by kernel_rfl) ?_)
  exact ⟨rfl, _, rfl, rfl, rows_of rfl rfl rfl⟩
set_option maxRecDepth 100000 in
set_option maxHeartbeats 8000000 in
theorem seen_a (a b : List En) (ta tb : Tag) (i : Nat) (e : En) (he : a[i]? = some e) (s : List Dl × Nat) (hs : s.1.length < 1000000000) : ACalls Tryz.prog 95 [.int .i64 (i : Int), .int .i64 (-1), .ptr 0 0, .ref [ensA b tb], .ref [ensA a ta]] (rows s) ((fun r M => r = .ret (.tup []) ∧ (rows (more s ⟨e.path, 3⟩)).le M)) := by
  refine acalls_of tabOK Tryz.func95 rfl (by decide) (by simp [Tryz.f95]) ?_
  have d1 : decide ((i : Int) < 0) = false := decide_eq_false (by omega)
  unfold ensA rows dlA
  have la := len_map Dl.av s.1
  repeat' (first | refine DW_VB tabs rfl d1 ?_ | refine DW_VI tabs rfl la ?_ | refine DW_A tabs rfl ?_ | refine DW_nil ?_ | refine W_A rfl ?_ | refine DW_ix tabOK rfl (ixN he) ?_ | refine DW_row tabOK rfl ?_ | refine DW_app tabOK rfl rfl (by simp; omega) (by simp; omega) ?_ | refine DW_app0 tabOK rfl (by simp; omega) (by simp; omega) ?_ | refine W_draw mixed [2, 0, 1, 3, 4, 5, 6, 7, 8, 9] [.R, .R, .P, .R, .R, .R, .P, .P, .E, .E] rfl rfl (by kernel_rfl) ?_ | refine W_draw mixed [1, 6, 0, 2, 3, 4, 5, 7, 8, 9, 10, 11, 12] [.R, .P, .R, .R, .R, .R, .P, .R, .R, .R, .P, .P, .P] rfl rfl (by kernel_rfl) ?_)
  exact ⟨rfl, _, rfl, rfl, rows_of rfl rfl rfl⟩
set_option maxRecDepth 100000 in
set_option maxHeartbeats 8000000 in
theorem seen_ab (a b : List En) (ta tb : Tag) (i k : Nat) (e e2 : En) (he : a[i]? = some e) (he2 : b[k]? = some e2) (hc : e.meta_.ch.length < 1000000) (hc2 : e2.meta_.ch.length < 1000000) (s : List Dl × Nat) (hs : s.1.length < 1000000000) : ACalls Tryz.prog 95 [.int .i64 (i : Int), .int .i64 (k : Int), .ptr 0 0, .ref [ensA b tb], .ref [ensA a ta]] (rows s) ((fun r M => r = .ret (.tup []) ∧ (rows (if e.meta_ = e2.meta_ then s else more s ⟨e.path, 2⟩)).le M)) := by
  refine acalls_of tabOK Tryz.func95 rfl (by decide) (by simp [Tryz.f95]) ?_
  have d1 : decide ((i : Int) < 0) = false := decide_eq_false (by omega)
  have d2 : decide ((k : Int) < 0) = false := decide_eq_false (by omega)
  have ks := dSame_ok e.meta_ e2.meta_ hc hc2
  have la := len_map Dl.av s.1
  by_cases h : e.meta_ = e2.meta_
  · rw [decide_eq_true h] at ks
    rw [if_pos h]
    unfold ensA rows dlA
    repeat' (first | refine DW_VB tabs rfl (by first | exact d1 | exact d2) ?_ | refine DW_VI tabs rfl la ?_ | refine DW_A tabs rfl ?_ | refine DW_nil ?_ | refine W_A rfl ?_ | refine DW_C rfl ks ?_ | refine DW_ix tabOK rfl (ixN he) ?_ | refine DW_ix tabOK rfl (ixN he2) ?_ | refine DW_row tabOK rfl ?_ | refine DW_app tabOK rfl rfl (by simp; omega) (by simp; omega) ?_ | refine DW_app0 tabOK rfl (by simp; omega) (by simp; omega) ?_ | refine W_draw mixed [2, 0, 1, 3, 4, 5, 6, 7, 8, 9] [.R, .R, .P, .R, .R, .R, .P, .P, .E, .E] rfl rfl (by kernel_rfl) ?_ | refine W_draw mixed [1, 6, 0, 2, 3, 4, 5, 7, 8, 9, 10, 11, 12] [.R, .P, .R, .R, .R, .R, .P, .R, .R, .R, .P, .P, .P] rfl rfl (by kernel_rfl) ?_)
    exact ⟨rfl, _, rfl, rfl, Mem.le_refl _⟩
  · rw [decide_eq_false h] at ks
    rw [if_neg h]
    unfold ensA rows dlA
    repeat' (first | refine DW_VB tabs rfl (by first | exact d1 | exact d2) ?_ | refine DW_VI tabs rfl la ?_ | refine DW_A tabs rfl ?_ | refine DW_nil ?_ | refine W_A rfl ?_ | refine DW_C rfl ks ?_ | refine DW_ix tabOK rfl (ixN he) ?_ | refine DW_ix tabOK rfl (ixN he2) ?_ | refine DW_row tabOK rfl ?_ | refine DW_app tabOK rfl rfl (by simp; omega) (by simp; omega) ?_ | refine DW_app0 tabOK rfl (by simp; omega) (by simp; omega) ?_ | refine W_draw mixed [2, 0, 1, 3, 4, 5, 6, 7, 8, 9] [.R, .R, .P, .R, .R, .R, .P, .P, .E, .E] rfl rfl (by kernel_rfl) ?_ | refine W_draw mixed [1, 6, 0, 2, 3, 4, 5, 7, 8, 9, 10, 11, 12] [.R, .P, .R, .R, .R, .R, .P, .R, .R, .R, .P, .P, .P] rfl rfl (by kernel_rfl) ?_)
    exact ⟨rfl, _, rfl, rfl, rows_of rfl rfl rfl⟩
end Go.Proofs.YthdeopopodhimaaGreatDoor
