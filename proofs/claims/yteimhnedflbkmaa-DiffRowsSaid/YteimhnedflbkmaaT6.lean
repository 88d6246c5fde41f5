/- A step of the proof that the law holds: functions of the program, each shown to compute what its text says. No further condition. -/
import Derived.Test.YteimhnedflbkmaaT4
import Derived.Test.YteimhnedflbkmaaT5
namespace Go.Proofs.Yteimhnedflbkmaa
open Go.Ab

/-- What the rows' memory holds. -/
def rows (s : List Dl × Nat) : Mem := ⟨2, [(0, .cells [.sl 2 (s.1.map Dl.av) (.tok 1 s.2)]), (1, .spare s.2)]⟩
def more (s : List Dl × Nat) (d : Dl) : List Dl × Nat := (s.1 ++ [d], s.2 + 1)

theorem rows_of {s : List Dl × Nat} {d : Dl} {M : Mem} (hn : 2 = M.next) (h0 : M.get 0 = some (.cells [.sl 2 (s.1.map Dl.av ++ [Dl.av d]) (.tok 1 (s.2 + 1))])) (h1 : M.get 1 = some (.spare (s.2 + 1))) : (rows (more s d)).le M :=
  Mem.le_cons (h0.trans cells_app) (Mem.le_cons h1 (Mem.le_nil hn))

theorem seen19_b (a b : List En) (ta tb : Tag) (k : Nat) (e : En) (he : b[k]? = some e) (s : List Dl × Nat) (hs : s.1.length < 1000000000) :
    ACalls Try.prog 19 [.int .i64 (-1), .int .i64 k, .ptr 0 0, .ref [.sl 5 (b.map En.av) tb], .ref [.sl 5 (a.map En.av) ta]] (rows s) (fun r M => r = .ret (.tup []) ∧ (rows (more s ⟨e.path, 1⟩)).le M) := by
  refine acalls_of tabOK Try.func19 rfl (by decide) (by simp [Try.f19]) ?_
  repeat' (first
        | (show DW _ _ _ _ _ _ _ _; first
          | refine DW_Q tabs rfl rfl rfl rfl ?_
          | refine DW_nil ?_
          | refine DW_R tabOK rfl rfl rfl rfl rfl ?_
          | refine DW_E tabOK rfl rfl rfl rfl rfl ?_
          | refine DW_E0 tabOK rfl rfl rfl rfl rfl ?_
          | refine DW_no rfl rfl rfl ?_
          | refine DW_no0 rfl rfl rfl ?_
          | refine DW_lits tabOK rfl rfl rfl rfl rfl rfl rfl rfl rfl rfl rfl rfl rfl ?_
          | refine DW_append_own tabOK rfl rfl rfl rfl rfl rfl rfl rfl rfl rfl rfl rfl rfl rfl rfl (by simp; omega) (by simp; omega) ?_)
        | (show W _ _ _ _ _ _; first
          | refine W_seq ?_
          | refine W_text rfl (fun _ _ _ h => h) ?_
          | refine W_block ?_
          | refine W_skip ?_
          | refine W_exit ?_
          | refine W_ret ?_
          | refine W_true rfl ?_
          | refine W_false rfl ?_
          | refine W_cond rfl (fun _ => ?_) (fun _ => ?_)
          | refine W_draw mixed [2, 0, 1, 3, 4, 5, 6, 7, 8, 9] [.R, .R, .P, .R, .R, .R, .P, .P, .E, .E] rfl rfl (by kernel_rfl) ?_
          | refine W_draw mixed [1, 6, 0, 2, 3, 4, 5, 7, 8, 9, 10, 11, 12] [.R, .P, .R, .R, .R, .R, .P, .R, .R, .R, .E, .P, .P] rfl rfl (by kernel_rfl) ?_))
  refine DW_index tabOK rfl rfl rfl rfl rfl rfl rfl rfl rfl rfl (Int.natCast_nonneg _) (map_get he) ?_
  repeat' (first
        | (show DW _ _ _ _ _ _ _ _; first
          | refine DW_Q tabs rfl rfl rfl rfl ?_
          | refine DW_nil ?_
          | refine DW_R tabOK rfl rfl rfl rfl rfl ?_
          | refine DW_E tabOK rfl rfl rfl rfl rfl ?_
          | refine DW_E0 tabOK rfl rfl rfl rfl rfl ?_
          | refine DW_no rfl rfl rfl ?_
          | refine DW_no0 rfl rfl rfl ?_
          | refine DW_lits tabOK rfl rfl rfl rfl rfl rfl rfl rfl rfl rfl rfl rfl rfl ?_
          | refine DW_append_own tabOK rfl rfl rfl rfl rfl rfl rfl rfl rfl rfl rfl rfl rfl rfl rfl (by simp; omega) (by simp; omega) ?_)
        | (show W _ _ _ _ _ _; first
          | refine W_seq ?_
          | refine W_text rfl (fun _ _ _ h => h) ?_
          | refine W_block ?_
          | refine W_skip ?_
          | refine W_exit ?_
          | refine W_ret ?_
          | refine W_true rfl ?_
          | refine W_false rfl ?_
          | refine W_cond rfl (fun _ => ?_) (fun _ => ?_)
          | refine W_draw mixed [2, 0, 1, 3, 4, 5, 6, 7, 8, 9] [.R, .R, .P, .R, .R, .R, .P, .P, .E, .E] rfl rfl (by kernel_rfl) ?_
          | refine W_draw mixed [1, 6, 0, 2, 3, 4, 5, 7, 8, 9, 10, 11, 12] [.R, .P, .R, .R, .R, .R, .P, .R, .R, .R, .E, .P, .P] rfl rfl (by kernel_rfl) ?_))
  exact ⟨rfl, _, rfl, rfl, rows_of rfl rfl rfl⟩
theorem seen19_a (a b : List En) (ta tb : Tag) (i : Nat) (e : En) (he : a[i]? = some e) (s : List Dl × Nat) (hs : s.1.length < 1000000000) :
    ACalls Try.prog 19 [.int .i64 i, .int .i64 (-1), .ptr 0 0, .ref [.sl 5 (b.map En.av) tb], .ref [.sl 5 (a.map En.av) ta]] (rows s) (fun r M => r = .ret (.tup []) ∧ (rows (more s ⟨e.path, 3⟩)).le M) := by
  refine acalls_of tabOK Try.func19 rfl (by decide) (by simp [Try.f19]) ?_
  have d1 : decide ((i : Int) < 0) = false := by simp
  repeat' (first
        | (show DW _ _ _ _ _ _ _ _; first
          | refine DW_V tabs rfl rfl rfl rfl (congrArg AV.bool d1) ?_
          | refine DW_Q tabs rfl rfl rfl rfl ?_
          | refine DW_nil ?_
          | refine DW_R tabOK rfl rfl rfl rfl rfl ?_
          | refine DW_E tabOK rfl rfl rfl rfl rfl ?_
          | refine DW_E0 tabOK rfl rfl rfl rfl rfl ?_
          | refine DW_no rfl rfl rfl ?_
          | refine DW_no0 rfl rfl rfl ?_
          | refine DW_lits tabOK rfl rfl rfl rfl rfl rfl rfl rfl rfl rfl rfl rfl rfl ?_
          | refine DW_append_own tabOK rfl rfl rfl rfl rfl rfl rfl rfl rfl rfl rfl rfl rfl rfl rfl (by simp; omega) (by simp; omega) ?_)
        | (show W _ _ _ _ _ _; first
          | refine W_seq ?_
          | refine W_text rfl (fun _ _ _ h => h) ?_
          | refine W_block ?_
          | refine W_skip ?_
          | refine W_exit ?_
          | refine W_ret ?_
          | refine W_true rfl ?_
          | refine W_false rfl ?_
          | refine W_cond rfl (fun _ => ?_) (fun _ => ?_)
          | refine W_draw mixed [2, 0, 1, 3, 4, 5, 6, 7, 8, 9] [.R, .R, .P, .R, .R, .R, .P, .P, .E, .E] rfl rfl (by kernel_rfl) ?_
          | refine W_draw mixed [1, 6, 0, 2, 3, 4, 5, 7, 8, 9, 10, 11, 12] [.R, .P, .R, .R, .R, .R, .P, .R, .R, .R, .E, .P, .P] rfl rfl (by kernel_rfl) ?_))
  refine DW_index tabOK rfl rfl rfl rfl rfl rfl rfl rfl rfl rfl (Int.natCast_nonneg _) (map_get he) ?_
  repeat' (first
        | (show DW _ _ _ _ _ _ _ _; first
          | refine DW_Q tabs rfl rfl rfl rfl ?_
          | refine DW_nil ?_
          | refine DW_R tabOK rfl rfl rfl rfl rfl ?_
          | refine DW_E tabOK rfl rfl rfl rfl rfl ?_
          | refine DW_E0 tabOK rfl rfl rfl rfl rfl ?_
          | refine DW_no rfl rfl rfl ?_
          | refine DW_no0 rfl rfl rfl ?_
          | refine DW_lits tabOK rfl rfl rfl rfl rfl rfl rfl rfl rfl rfl rfl rfl rfl ?_
          | refine DW_append_own tabOK rfl rfl rfl rfl rfl rfl rfl rfl rfl rfl rfl rfl rfl rfl rfl (by simp; omega) (by simp; omega) ?_)
        | (show W _ _ _ _ _ _; first
          | refine W_seq ?_
          | refine W_text rfl (fun _ _ _ h => h) ?_
          | refine W_block ?_
          | refine W_skip ?_
          | refine W_exit ?_
          | refine W_ret ?_
          | refine W_true rfl ?_
          | refine W_false rfl ?_
          | refine W_cond rfl (fun _ => ?_) (fun _ => ?_)
          | refine W_draw mixed [2, 0, 1, 3, 4, 5, 6, 7, 8, 9] [.R, .R, .P, .R, .R, .R, .P, .P, .E, .E] rfl rfl (by kernel_rfl) ?_
          | refine W_draw mixed [1, 6, 0, 2, 3, 4, 5, 7, 8, 9, 10, 11, 12] [.R, .P, .R, .R, .R, .R, .P, .R, .R, .R, .E, .P, .P] rfl rfl (by kernel_rfl) ?_))
  exact ⟨rfl, _, rfl, rfl, rows_of rfl rfl rfl⟩
theorem seen19_ab (a b : List En) (ta tb : Tag) (i k : Nat) (e e2 : En) (he : a[i]? = some e) (he2 : b[k]? = some e2) (hc : e.info.chunks.length < 1000000000) (s : List Dl × Nat) (hs : s.1.length < 1000000000) :
    ACalls Try.prog 19 [.int .i64 i, .int .i64 k, .ptr 0 0, .ref [.sl 5 (b.map En.av) tb], .ref [.sl 5 (a.map En.av) ta]] (rows s) (fun r M => r = .ret (.tup []) ∧ (rows (if e.info = e2.info then s else more s ⟨e.path, 2⟩)).le M) := by
  refine acalls_of tabOK Try.func19 rfl (by decide) (by simp [Try.f19]) ?_
  have d1 : decide ((i : Int) < 0) = false := by simp
  have d2 : decide ((k : Int) < 0) = false := by simp
  repeat' (first
        | (show DW _ _ _ _ _ _ _ _; first
          | refine DW_V tabs rfl rfl rfl rfl (congrArg AV.bool d1) ?_
          | refine DW_V tabs rfl rfl rfl rfl (congrArg AV.bool d2) ?_
          | refine DW_Q tabs rfl rfl rfl rfl ?_
          | refine DW_nil ?_
          | refine DW_R tabOK rfl rfl rfl rfl rfl ?_
          | refine DW_E tabOK rfl rfl rfl rfl rfl ?_
          | refine DW_E0 tabOK rfl rfl rfl rfl rfl ?_
          | refine DW_no rfl rfl rfl ?_
          | refine DW_no0 rfl rfl rfl ?_
          | refine DW_lits tabOK rfl rfl rfl rfl rfl rfl rfl rfl rfl rfl rfl rfl rfl ?_
          | refine DW_append_own tabOK rfl rfl rfl rfl rfl rfl rfl rfl rfl rfl rfl rfl rfl rfl rfl (by simp; omega) (by simp; omega) ?_)
        | (show W _ _ _ _ _ _; first
          | refine W_seq ?_
          | refine W_text rfl (fun _ _ _ h => h) ?_
          | refine W_block ?_
          | refine W_skip ?_
          | refine W_exit ?_
          | refine W_ret ?_
          | refine W_true rfl ?_
          | refine W_false rfl ?_
          | refine W_cond rfl (fun _ => ?_) (fun _ => ?_)
          | refine W_draw mixed [2, 0, 1, 3, 4, 5, 6, 7, 8, 9] [.R, .R, .P, .R, .R, .R, .P, .P, .E, .E] rfl rfl (by kernel_rfl) ?_
          | refine W_draw mixed [1, 6, 0, 2, 3, 4, 5, 7, 8, 9, 10, 11, 12] [.R, .P, .R, .R, .R, .R, .P, .R, .R, .R, .E, .P, .P] rfl rfl (by kernel_rfl) ?_))
  refine DW_index tabOK rfl rfl rfl rfl rfl rfl rfl rfl rfl rfl (Int.natCast_nonneg _) (map_get he) ?_
  repeat (first
        | refine DW_Q tabs rfl rfl rfl rfl ?_
        | refine DW_R tabOK rfl rfl rfl rfl rfl ?_
        | refine DW_E tabOK rfl rfl rfl rfl rfl ?_
        | refine DW_E0 tabOK rfl rfl rfl rfl rfl ?_
        | refine DW_no rfl rfl rfl ?_
        | refine DW_no0 rfl rfl rfl ?_)
  refine DW_index tabOK rfl rfl rfl rfl rfl rfl rfl rfl rfl rfl (Int.natCast_nonneg _) (map_get he2) ?_
  repeat (first
        | refine DW_Q tabs rfl rfl rfl rfl ?_
        | refine DW_R tabOK rfl rfl rfl rfl rfl ?_
        | refine DW_E tabOK rfl rfl rfl rfl rfl ?_
        | refine DW_E0 tabOK rfl rfl rfl rfl rfl ?_
        | refine DW_no rfl rfl rfl ?_
        | refine DW_no0 rfl rfl rfl ?_)
  refine DW_pure rfl rfl rfl rfl rfl (same20_ok e.info e2.info hc) ?_
  repeat' (first
        | (show DW _ _ _ _ _ _ _ _; first
          | refine DW_Q tabs rfl rfl rfl rfl ?_
          | refine DW_nil ?_
          | refine DW_R tabOK rfl rfl rfl rfl rfl ?_
          | refine DW_E tabOK rfl rfl rfl rfl rfl ?_
          | refine DW_E0 tabOK rfl rfl rfl rfl rfl ?_
          | refine DW_no rfl rfl rfl ?_
          | refine DW_no0 rfl rfl rfl ?_
          | refine DW_lits tabOK rfl rfl rfl rfl rfl rfl rfl rfl rfl rfl rfl rfl rfl ?_
          | refine DW_append_own tabOK rfl rfl rfl rfl rfl rfl rfl rfl rfl rfl rfl rfl rfl rfl rfl (by simp; omega) (by simp; omega) ?_)
        | (show W _ _ _ _ _ _; first
          | refine W_seq ?_
          | refine W_text rfl (fun _ _ _ h => h) ?_
          | refine W_block ?_
          | refine W_skip ?_
          | refine W_exit ?_
          | refine W_ret ?_
          | refine W_true rfl ?_
          | refine W_false rfl ?_
          | refine W_cond rfl (fun _ => ?_) (fun _ => ?_)
          | refine W_draw mixed [2, 0, 1, 3, 4, 5, 6, 7, 8, 9] [.R, .R, .P, .R, .R, .R, .P, .P, .E, .E] rfl rfl (by kernel_rfl) ?_
          | refine W_draw mixed [1, 6, 0, 2, 3, 4, 5, 7, 8, 9, 10, 11, 12] [.R, .P, .R, .R, .R, .R, .P, .R, .R, .R, .E, .P, .P] rfl rfl (by kernel_rfl) ?_))
  · rename_i h
    have hne : ¬ e.info = e2.info := by simpa using h
    refine DW_index tabOK rfl rfl rfl rfl rfl rfl rfl rfl rfl rfl (Int.natCast_nonneg _) (map_get he) ?_
    repeat' (first
          | (show DW _ _ _ _ _ _ _ _; first
            | refine DW_Q tabs rfl rfl rfl rfl ?_
            | refine DW_nil ?_
            | refine DW_R tabOK rfl rfl rfl rfl rfl ?_
            | refine DW_E tabOK rfl rfl rfl rfl rfl ?_
            | refine DW_E0 tabOK rfl rfl rfl rfl rfl ?_
            | refine DW_no rfl rfl rfl ?_
            | refine DW_no0 rfl rfl rfl ?_
            | refine DW_lits tabOK rfl rfl rfl rfl rfl rfl rfl rfl rfl rfl rfl rfl rfl ?_
            | refine DW_append_own tabOK rfl rfl rfl rfl rfl rfl rfl rfl rfl rfl rfl rfl rfl rfl rfl (by simp; omega) (by simp; omega) ?_)
          | (show W _ _ _ _ _ _; first
            | refine W_seq ?_
            | refine W_text rfl (fun _ _ _ h => h) ?_
            | refine W_block ?_
            | refine W_skip ?_
            | refine W_exit ?_
            | refine W_ret ?_
            | refine W_true rfl ?_
            | refine W_false rfl ?_
            | refine W_cond rfl (fun _ => ?_) (fun _ => ?_)
            | refine W_draw mixed [2, 0, 1, 3, 4, 5, 6, 7, 8, 9] [.R, .R, .P, .R, .R, .R, .P, .P, .E, .E] rfl rfl (by kernel_rfl) ?_
            | refine W_draw mixed [1, 6, 0, 2, 3, 4, 5, 7, 8, 9, 10, 11, 12] [.R, .P, .R, .R, .R, .R, .P, .R, .R, .R, .E, .P, .P] rfl rfl (by kernel_rfl) ?_))
    rw [if_neg hne]
    exact ⟨rfl, _, rfl, rfl, rows_of rfl rfl rfl⟩
  · rename_i h
    have heq : e.info = e2.info := by simpa using h
    rw [if_pos heq]
    exact ⟨rfl, _, rfl, rfl, Mem.le_refl _⟩

instance : Inhabited En := ⟨⟨[], 0, ⟨0, 0, []⟩⟩⟩
instance : Inhabited Dl := ⟨⟨[], 0⟩⟩

def stepE (a b : List En) (s : List Dl × Nat) (i k : Int) : List Dl × Nat :=
  if i < 0 then more s ⟨(b.getD k.toNat default).path, 1⟩
  else if k < 0 then more s ⟨(a.getD i.toNat default).path, 3⟩
  else if (a.getD i.toNat default).info = (b.getD k.toNat default).info then s else more s ⟨(a.getD i.toNat default).path, 2⟩

/-- The deltas of two rows. -/
def entriesS (a b : List En) (s : List Dl × Nat) : List Dl × Nat :=
  walkF a.length b.length (fun i => (a.getD i default).path) (fun i => (b.getD i default).path) (stepE a b) (a.length + b.length + 1) 0 0 s

theorem getD_of {α : Type} {l : List α} {i : Nat} {e d : α} (h : l[i]? = some e) : l.getD i d = e := by simp [List.getD, h]

theorem closed_dl (d : Dl) : Closed d.av := closed_agg (by intro x hx; simp only [List.mem_cons, List.not_mem_nil, or_false] at hx; rcases hx with rfl | rfl <;> first | exact closed_str | exact closed_int)
theorem closed_dls (l : List Dl) : ∀ x, x ∈ l.map Dl.av → Closed x := by
  intro x hx
  obtain ⟨d, _, rfl⟩ := List.mem_map.1 hx
  exact closed_dl d
theorem closed_dls2 (l : List Dl) : ∀ x, x ∈ l.map Dl.av → ∀ c, c ∈ x.cells → Closed c := by
  intro x hx c hc
  obtain ⟨d, _, rfl⟩ := List.mem_map.1 hx
  simp only [Dl.av, AV.cells, List.mem_cons, List.not_mem_nil, or_false] at hc
  rcases hc with rfl | rfl <;> first | exact closed_str | exact closed_int
theorem closed_ints (l : List Int) : Closed (.sl 1 (l.map intA) .none) := by
  refine closed_sl (.inl rfl) ?_ ?_
  · intro x hx
    obtain ⟨d, _, rfl⟩ := List.mem_map.1 hx
    exact closed_int
  · intro x hx c hc
    obtain ⟨d, _, rfl⟩ := List.mem_map.1 hx
    simp only [intA, AV.cells, List.mem_cons, List.not_mem_nil, or_false] at hc
    subst hc
    exact closed_int
theorem closed_ens2 (l : List En) : ∀ x, x ∈ l.map En.av → ∀ c, c ∈ x.cells → Closed c := by
  intro x hx c hc
  obtain ⟨d, _, rfl⟩ := List.mem_map.1 hx
  simp only [En.av, AV.cells, List.mem_cons, List.not_mem_nil, or_false] at hc
  rcases hc with rfl | rfl | rfl | rfl | rfl <;> first | exact closed_str | exact closed_int | exact closed_ints _
theorem closed_ens (l : List En) : ∀ x, x ∈ l.map En.av → Closed x := by
  intro x hx
  have h2 := closed_ens2 l x hx
  obtain ⟨d, _, rfl⟩ := List.mem_map.1 hx
  exact closed_agg h2

theorem jret {P : Program} {g : FuncId} {args : List AV} {M N : Mem} (hn : M.next ≤ N.next) (h : ACalls P g args M (fun r M' => r = .ret (.tup []) ∧ N.le M')) : ACalls P g args M (fun r M' => r = .ret (.tup []) ∧ M' = N) := by
  refine h.joint ?_ ?_
  · rintro x M' ⟨e, hle⟩
    cases e
    exact ⟨_, N, ⟨rfl, rfl⟩, Joint.le ⟨rfl, fun _ => Sub.refl⟩ hle⟩
  · rintro x M' ⟨e, _⟩
    cases e

def smallE (l : List En) : Prop := l.length < 1000000 ∧ ∀ e, e ∈ l → e.info.chunks.length < 1000000000

theorem entries_ok (a b : List En) (ha : smallE a) (hb : smallE b) : APure Try.prog 10 [.sl 5 (a.map En.av) .none, .sl 5 (b.map En.av) .none] (.sl 2 ((entriesS a b ([], 0)).1.map Dl.av) .none) := by
  have H : ACalls Try.prog 10 [.sl 5 (a.map En.av) .none, .sl 5 (b.map En.av) .none] ⟨0, []⟩ (fun e _ => e = .ret (.sl 2 ((entriesS a b ([], 0)).1.map Dl.av) .none)) := by
    have H0 : ACalls Try.prog 10 [.sl 5 (a.map En.av) .none, .sl 5 (b.map En.av) .none] ⟨0, []⟩ (fun e M => M.next = 2 ∧ ∃ g, e = .ret (.sl 2 ((entriesS a b ([], 0)).1.map Dl.av) (.tok 1 g))) := by
      refine acalls_of tabOK Try.func10 rfl (by decide) (by simp [Try.f10]) ?_
      refine W_seq ?_
      refine W_text rfl (fun _ _ _ h => h) ?_
      repeat (first
            | refine DW_Q tabs rfl rfl rfl rfl ?_
            | refine DW_R tabOK rfl rfl rfl rfl rfl ?_
            | refine DW_E tabOK rfl rfl rfl rfl rfl ?_
            | refine DW_E0 tabOK rfl rfl rfl rfl rfl ?_
            | refine DW_no rfl rfl rfl ?_
            | refine DW_no0 rfl rfl rfl ?_)
      refine DW_nil ?_
      refine W_seq ?_
      refine W_text rfl (fun _ _ _ h => h) ?_
      repeat (first
            | refine DW_Q tabs rfl rfl rfl rfl ?_
            | refine DW_R tabOK rfl rfl rfl rfl rfl ?_
            | refine DW_E tabOK rfl rfl rfl rfl rfl ?_
            | refine DW_E0 tabOK rfl rfl rfl rfl rfl ?_
            | refine DW_no rfl rfl rfl ?_
            | refine DW_no0 rfl rfl rfl ?_)
      refine DW_nil ?_
      refine W_ghost ((Joint.tokM 0 0 rfl rfl (sz' := 2) (.inr rfl)).trans (Joint.le (g := ⟨[(2, .ref [.sl 5 (a.map En.av) .none]), (3, .ref [.sl 5 (b.map En.av) .none]), (5, .ptr 0 0)], []⟩) (N := rows ([], 0)) ?_ ?_)) ?_
      · skip
        repeat (refine AF.le_cons rfl ?_)
        exact AF.le_nil rfl
      · exact Mem.le_cons rfl (Mem.le_cons rfl (Mem.le_nil rfl))
      have la : ((a.map En.av).length : Int) = (a.length : Int) := by simp
      have lb : ((b.map En.av).length : Int) = (b.length : Int) := by simp
      have gA : ∀ i, i < a.length → a[i]? = some (a.getD i default) := fun i h => by simp [List.getD, h]
      have gB : ∀ i, i < b.length → b[i]? = some (b.getD i default) := fun i h => by simp [List.getD, h]
      repeat' (first
            | (show DW _ _ _ _ _ _ _ _; first
              | refine DW_V tabs rfl rfl rfl rfl (congrArg (AV.int _) la) ?_
              | refine DW_V tabs rfl rfl rfl rfl (congrArg (AV.int _) lb) ?_
              | refine DW_Q tabs rfl rfl rfl rfl ?_
              | refine DW_nil ?_
              | refine DW_R tabOK rfl rfl rfl rfl rfl ?_
              | refine DW_E tabOK rfl rfl rfl rfl rfl ?_
              | refine DW_E0 tabOK rfl rfl rfl rfl rfl ?_
              | refine DW_no rfl rfl rfl ?_
              | refine DW_no0 rfl rfl rfl ?_
              | refine DW_lits tabOK rfl rfl rfl rfl rfl rfl rfl rfl rfl rfl rfl rfl rfl ?_
              | refine DW_append_own tabOK rfl rfl rfl rfl rfl rfl rfl rfl rfl rfl rfl rfl rfl rfl rfl (by simp; omega) (by simp; omega) ?_)
            | (show W _ _ _ _ _ _; first
              | refine W_seq ?_
              | refine W_text rfl (fun _ _ _ h => h) ?_
              | refine W_block ?_
              | refine W_skip ?_
              | refine W_exit ?_
              | refine W_ret ?_
              | refine W_true rfl ?_
              | refine W_false rfl ?_
              | refine W_cond rfl (fun _ => ?_) (fun _ => ?_)))
      refine DW_call rfl rfl rfl rfl rfl rfl (walk_ok rows (fun s i k => s.1.length ≤ i + k ∧ i ≤ a.length ∧ k ≤ b.length) (stepE a b) a.length b.length (by have := ha.1; omega) (by have := hb.1; omega) (fun i => (a.getD i default).path) (fun i => (b.getD i default).path) 17 18 19
        [.ref [.sl 5 (a.map En.av) .none]] [.ref [.sl 5 (b.map En.av) .none]] [.ptr 0 0, .ref [.sl 5 (b.map En.av) .none], .ref [.sl 5 (a.map En.av) .none]]
        (fun i hi => path17_ok a _ i _ (gA i hi)) (fun i hi => path18_ok b _ i _ (gB i hi)) ?_ ?_ ?_ ([], 0) ⟨by simp, by simp, by simp⟩) ?_ ?_
      · intro s i k hJ hi
        have := ha.1
        have := hb.1
        refine ⟨?_, ?_⟩
        · have h0 : ¬ ((i : Int) < 0) := by omega
          have e : stepE a b s i (-1) = more s ⟨(a.getD i default).path, 3⟩ := by simp only [stepE, if_neg h0, Int.toNat_natCast]; rfl
          rw [e]
          exact jret (Nat.le_refl _) (seen19_a a b _ _ i _ (gA i hi) s (by omega))
        · have h0 : ¬ ((i : Int) < 0) := by omega
          have e : stepE a b s i (-1) = more s ⟨(a.getD i default).path, 3⟩ := by simp only [stepE, if_neg h0, Int.toNat_natCast]; rfl
          rw [e]
          exact ⟨by simp [more]; omega, by omega, by omega⟩
      · intro s i k hJ hk
        have := ha.1
        have := hb.1
        have e : stepE a b s (-1) k = more s ⟨(b.getD k default).path, 1⟩ := by simp [stepE]
        rw [e]
        exact ⟨jret (Nat.le_refl _) (seen19_b a b _ _ k _ (gB k hk) s (by omega)), by simp [more]; omega, by omega, by omega⟩
      · intro s i k hJ hi hk
        have := ha.1
        have := hb.1
        have e : stepE a b s i k = if (a.getD i default).info = (b.getD k default).info then s else more s ⟨(a.getD i default).path, 2⟩ := by
          have h1 : ¬ ((i : Int) < 0) := by omega
          have h2 : ¬ ((k : Int) < 0) := by omega
          simp only [stepE, if_neg h1, if_neg h2, Int.toNat_natCast]
        rw [e]
        refine ⟨jret (Nat.le_refl _) (seen19_ab a b _ _ i k _ _ (gA i hi) (gB k hk) (ha.2 _ (List.mem_of_getElem? (gA i hi))) s (by omega)), ?_, by omega, by omega⟩
        split
        · omega
        · simp [more]; omega
      · rintro u M' ⟨e, rfl⟩
        cases e
        repeat' (first
              | (show DW _ _ _ _ _ _ _ _; first
                | refine DW_Q tabs rfl rfl rfl rfl ?_
                | refine DW_nil ?_
                | refine DW_R tabOK rfl rfl rfl rfl rfl ?_
                | refine DW_E tabOK rfl rfl rfl rfl rfl ?_
                | refine DW_E0 tabOK rfl rfl rfl rfl rfl ?_
                | refine DW_no rfl rfl rfl ?_
                | refine DW_no0 rfl rfl rfl ?_
                | refine DW_lits tabOK rfl rfl rfl rfl rfl rfl rfl rfl rfl rfl rfl rfl rfl ?_
                | refine DW_append_own tabOK rfl rfl rfl rfl rfl rfl rfl rfl rfl rfl rfl rfl rfl rfl rfl (by simp; omega) (by simp; omega) ?_)
              | (show W _ _ _ _ _ _; first
                | refine W_seq ?_
                | refine W_text rfl (fun _ _ _ h => h) ?_
                | refine W_block ?_
                | refine W_skip ?_
                | refine W_exit ?_
                | refine W_ret ?_
                | refine W_true rfl ?_
                | refine W_false rfl ?_
                | refine W_cond rfl (fun _ => ?_) (fun _ => ?_)))
        exact ⟨rfl, _, rfl, rfl, _, rfl⟩
      · rintro u M' ⟨e, _⟩
        cases e
    refine H0.joint ?_ ?_
    · rintro x M' ⟨hn, g, e⟩
      cases e
      refine ⟨_, ⟨0, []⟩, rfl, ?_⟩
      refine Joint.trans (g := ⟨[(0, .sl 2 ((entriesS a b ([], 0)).1.map Dl.av) .none)], []⟩) (Joint.le (AF.le_sub Sub.untag (AF.le_nil rfl)) (Mem.le_refl M')) (Joint.cut (Nat.le_refl _) (Nat.zero_le _) rfl ⟨SubC.of_closed ?_, trivial⟩ trivial)
      exact closed_sl (.inl rfl) (closed_dls _) (closed_dls2 _)
    · rintro x M' ⟨_, g, e⟩
      cases e
  exact apure_of (by
    intro x hx
    simp only [List.mem_cons, List.not_mem_nil, or_false] at hx
    rcases hx with rfl | rfl <;> exact closed_sl (.inl rfl) (closed_ens _) (closed_ens2 _)) (closed_sl (.inl rfl) (closed_dls _) (closed_dls2 _)) (H.mono fun e M he => he)
end Go.Proofs.Yteimhnedflbkmaa
