/- Parts of the proof, one behind the other: TreeC, AbE4, TreeD. No further condition. -/
import Derived.Test.YthdeopopodhimaaDoorM10
import Derived.Laws.Pointers
set_option linter.unusedVariables false
set_option linter.unusedSimpArgs false
/- Vertices as values; rows of them are found in, halved, joined. No further condition. -/
set_option linter.unusedVariables false
set_option linter.unusedSimpArgs false
namespace Go.Proofs.YthdeopopodhimaaDoor
open Go.Ab

def avV : (h : Nat) → Vt h → AV
  | 0, l => .iface 74 (.sl 3 (l.row.map Pr.av) .none)
  | h + 1, l => .iface 89 (.agg [.sl 1 (l.kids.map (avV h)) .none, .int .i64 ((allV (h + 1) l).length : Int)])
theorem closed_avV : ∀ (h : Nat) (v : Vt h), Closed (avV h v)
  | 0, l => closed_iface (closed_prs _)
  | h + 1, l => closed_iface (closed_agg (closed2 (closed_slmap (closed_avV h) (fun a c hc => by
      have : c ∈ [avV h a] := by cases h <;> exact hc
      simp at this
      exact this ▸ closed_avV h a)) closed_int))
theorem avV_form (h : Nat) (v : Vt h) : ∃ ty z, avV h v = .iface ty z := by cases h <;> exact ⟨_, _, rfl⟩
theorem avV_cells (h : Nat) (v : Vt h) : (avV h v).cells = [avV h v] := by cases h <;> rfl
def vxs (h : Nat) (l : List (Vt h)) : AV := .sl 1 (l.map (avV h)) .none
theorem closed_vxs (h : Nat) (l : List (Vt h)) : Closed (.sl 1 (l.map (avV h)) .none) := closed_slmap (closed_avV h) (fun a c hc => by
  rw [avV_cells] at hc
  simp at hc
  exact hc ▸ closed_avV h a)
theorem closed_vxsT (h : Nat) (l : List (Vt h)) (b : Bool) : Closed (.sl 1 (l.map (avV h)) (tgB b)) := by
  have h1 : ∀ x, x ∈ l.map (avV h) → Closed x := by
    intro x hx
    obtain ⟨a, _, rfl⟩ := List.mem_map.1 hx
    exact closed_avV h a
  have h2 : ∀ x, x ∈ l.map (avV h) → ∀ c, c ∈ x.cells → Closed c := by
    intro x hx c hc
    obtain ⟨a, _, rfl⟩ := List.mem_map.1 hx
    rw [avV_cells] at hc
    simp at hc
    exact hc ▸ closed_avV h a
  cases b
  · exact closed_sl (.inl rfl) h1 h2
  · exact closed_sl (.inr rfl) h1 h2

set_option maxRecDepth 100000 in
theorem indexV_ok (h : Nat) (l : List (Vt h)) (tg : Tag) (hl : l.length < 1000000) (g : FuncId) (fi ca : List AV) (p : Vt h → Bool) (hp : ∀ x, x ∈ l → APure Tryd.prog g (fi ++ [avV h x] ++ ca) (.bool (p x))) : APure Tryd.prog 116 [.sl 1 (l.map (avV h)) tg, .fn (.func g) fi ca] (.int .i64 (idxI l p)) := by
  intro M
  refine acalls_of tabOK Tryd.func116 rfl (by decide) (by simp [Tryd.f116]) ?_
  have la : ((l.map (avV h)).length : Int) = (l.length : Int) := by simp
  repeat' (first | (show DW _ _ _ _ _ _ _ _; first | refine DW_V tabs rfl rfl rfl rfl (congrArg (AV.int _) la) ?_ | refine DW_A tabs rfl ?_ | refine DW_nil ?_ | refine DW_lits tabOK rfl rfl rfl rfl rfl rfl rfl rfl rfl rfl rfl rfl rfl ?_ | refine DW_append_own tabOK rfl rfl rfl rfl rfl rfl rfl rfl rfl rfl rfl rfl rfl rfl rfl (by simp; omega) (by simp; omega) ?_) | (show W _ _ _ _ _ _; first | refine W_seq ?_ | refine W_text rfl (fun _ _ _ h => h) ?_ | refine W_block ?_ | refine W_skip ?_ | refine W_exit ?_ | refine W_ret ?_ | refine W_true rfl ?_ | refine W_false rfl ?_ | refine W_cond rfl (fun _ => ?_) (fun _ => ?_)))
  refine W_count l.length (fun i f N => N = M ∧ (∀ (j : Nat) y, j < i → l[j]? = some y → p y = false) ∧ f = ⟨[(0, .sl 1 (l.map (avV h)) tg), (1, .fn (.func g) fi ca), (7, .int .i64 (l.length : Int)), (8, .int .i64 (i : Int))], []⟩) (Nat.zero_le _) ⟨rfl, fun j y hj => absurd hj (Nat.not_lt_zero _), rfl⟩ (Joint.le ?_ (Mem.le_refl _)) ?_
  · skip
    repeat (refine AF.le_cons rfl ?_)
    exact AF.le_nil rfl
  · rintro i f N hi ⟨rfl, hno, rfl⟩
    by_cases h1 : i < l.length
    · have d1 : decide ((i : Int) < (l.length : Int)) = true := by simp; omega
      have hx : l[i]? = some l[i] := List.getElem?_eq_getElem h1
      have fi := wrap_succ (i := i) (by omega)
      have hk := hp l[i] (List.getElem_mem h1)
      generalize l[i] = x at hx hk
      have hmg := map_get (f := avV h) hx
      obtain ⟨ty, z, hax⟩ := avV_form h x
      rw [hax] at hk hmg
      cases hpx : p x
      · rw [hpx] at hk
        repeat' (first | (show DW _ _ _ _ _ _ _ _; first | refine DW_V tabs rfl rfl rfl rfl (congrArg AV.bool d1) ?_ | refine DW_V tabs rfl rfl rfl rfl (congrArg (AV.int _) fi) ?_ | refine DW_V tabs rfl rfl rfl rfl (congrArg (AV.int _) la) ?_ | refine DW_A tabs rfl ?_ | refine DW_nil ?_ | refine DW_lits tabOK rfl rfl rfl rfl rfl rfl rfl rfl rfl rfl rfl rfl rfl ?_ | refine DW_append_own tabOK rfl rfl rfl rfl rfl rfl rfl rfl rfl rfl rfl rfl rfl rfl rfl (by simp; omega) (by simp; omega) ?_) | (show W _ _ _ _ _ _; first | refine W_seq ?_ | refine W_text rfl (fun _ _ _ h => h) ?_ | refine W_block ?_ | refine W_skip ?_ | refine W_exit ?_ | refine W_ret ?_ | refine W_true rfl ?_ | refine W_false rfl ?_ | refine W_cond rfl (fun _ => ?_) (fun _ => ?_)))
        refine DW_index tabOK rfl rfl rfl rfl rfl rfl rfl rfl rfl rfl (Int.natCast_nonneg _) hmg ?_
        repeat' (first | (show DW _ _ _ _ _ _ _ _; first | refine DW_V tabs rfl rfl rfl rfl (congrArg AV.bool d1) ?_ | refine DW_V tabs rfl rfl rfl rfl (congrArg (AV.int _) fi) ?_ | refine DW_V tabs rfl rfl rfl rfl (congrArg (AV.int _) la) ?_ | refine DW_A tabs rfl ?_ | refine DW_nil ?_ | refine DW_lits tabOK rfl rfl rfl rfl rfl rfl rfl rfl rfl rfl rfl rfl rfl ?_ | refine DW_pure rfl rfl rfl rfl rfl hk ?_ | refine DW_append_own tabOK rfl rfl rfl rfl rfl rfl rfl rfl rfl rfl rfl rfl rfl rfl rfl (by simp; omega) (by simp; omega) ?_) | (show W _ _ _ _ _ _; first | refine W_seq ?_ | refine W_text rfl (fun _ _ _ h => h) ?_ | refine W_block ?_ | refine W_skip ?_ | refine W_exit ?_ | refine W_ret ?_ | refine W_true rfl ?_ | refine W_false rfl ?_ | refine W_cond rfl (fun _ => ?_) (fun _ => ?_)))
        refine ⟨h1, _, _, ⟨rfl, ?_, rfl⟩, Joint.le ?_ (Mem.le_refl _)⟩
        · intro j y hj hy
          by_cases hji : j = i
          · subst hji
            rw [hx] at hy
            cases hy
            exact hpx
          · exact hno j y (by omega) hy
        · skip
          repeat (refine AF.le_cons rfl ?_)
          exact AF.le_nil rfl
      · rw [hpx] at hk
        repeat' (first | (show DW _ _ _ _ _ _ _ _; first | refine DW_V tabs rfl rfl rfl rfl (congrArg AV.bool d1) ?_ | refine DW_V tabs rfl rfl rfl rfl (congrArg (AV.int _) fi) ?_ | refine DW_V tabs rfl rfl rfl rfl (congrArg (AV.int _) la) ?_ | refine DW_A tabs rfl ?_ | refine DW_nil ?_ | refine DW_lits tabOK rfl rfl rfl rfl rfl rfl rfl rfl rfl rfl rfl rfl rfl ?_ | refine DW_append_own tabOK rfl rfl rfl rfl rfl rfl rfl rfl rfl rfl rfl rfl rfl rfl rfl (by simp; omega) (by simp; omega) ?_) | (show W _ _ _ _ _ _; first | refine W_seq ?_ | refine W_text rfl (fun _ _ _ h => h) ?_ | refine W_block ?_ | refine W_skip ?_ | refine W_exit ?_ | refine W_ret ?_ | refine W_true rfl ?_ | refine W_false rfl ?_ | refine W_cond rfl (fun _ => ?_) (fun _ => ?_)))
        refine DW_index tabOK rfl rfl rfl rfl rfl rfl rfl rfl rfl rfl (Int.natCast_nonneg _) hmg ?_
        repeat' (first | (show DW _ _ _ _ _ _ _ _; first | refine DW_V tabs rfl rfl rfl rfl (congrArg AV.bool d1) ?_ | refine DW_V tabs rfl rfl rfl rfl (congrArg (AV.int _) fi) ?_ | refine DW_V tabs rfl rfl rfl rfl (congrArg (AV.int _) la) ?_ | refine DW_A tabs rfl ?_ | refine DW_nil ?_ | refine DW_lits tabOK rfl rfl rfl rfl rfl rfl rfl rfl rfl rfl rfl rfl rfl ?_ | refine DW_pure rfl rfl rfl rfl rfl hk ?_ | refine DW_append_own tabOK rfl rfl rfl rfl rfl rfl rfl rfl rfl rfl rfl rfl rfl rfl rfl (by simp; omega) (by simp; omega) ?_) | (show W _ _ _ _ _ _; first | refine W_seq ?_ | refine W_text rfl (fun _ _ _ h => h) ?_ | refine W_block ?_ | refine W_skip ?_ | refine W_exit ?_ | refine W_ret ?_ | refine W_true rfl ?_ | refine W_false rfl ?_ | refine W_cond rfl (fun _ => ?_) (fun _ => ?_)))
        exact ⟨rfl, _, rfl, by rw [idx_hit hno hx hpx]; rfl, rfl⟩
    · have d1 : decide ((i : Int) < (l.length : Int)) = false := by simp; omega
      obtain rfl : i = l.length := by omega
      repeat' (first | (show DW _ _ _ _ _ _ _ _; first | refine DW_V tabs rfl rfl rfl rfl (congrArg AV.bool d1) ?_ | refine DW_A tabs rfl ?_ | refine DW_nil ?_ | refine DW_lits tabOK rfl rfl rfl rfl rfl rfl rfl rfl rfl rfl rfl rfl rfl ?_ | refine DW_append_own tabOK rfl rfl rfl rfl rfl rfl rfl rfl rfl rfl rfl rfl rfl rfl rfl (by simp; omega) (by simp; omega) ?_) | (show W _ _ _ _ _ _; first | refine W_seq ?_ | refine W_text rfl (fun _ _ _ h => h) ?_ | refine W_block ?_ | refine W_skip ?_ | refine W_exit ?_ | refine W_ret ?_ | refine W_true rfl ?_ | refine W_false rfl ?_ | refine W_cond rfl (fun _ => ?_) (fun _ => ?_)))
      exact ⟨rfl, _, rfl, by rw [idx_none (fun j y hy => hno j y (List.getElem?_eq_some_iff.1 hy).1 hy)]; rfl, rfl⟩

theorem half_is (n : Nat) (h : n < 1000000) : IntKind.wrap .i64 (Int.tdiv (n : Int) 2) = ((n / 2 : Nat) : Int) := by
  have e : Int.tdiv (n : Int) 2 = ((n / 2 : Nat) : Int) := rfl
  rw [e]
  exact Go.Ab.wrap_small (by omega) (by omega)
def rowsP (l : List (List Pr)) : AV := .sl 1 (l.map fun r => .sl 3 (r.map Pr.av) .none) .full
set_option maxRecDepth 100000 in
theorem halvesP_ok (l : List Pr) (hl : l.length < 100000) : APure Tryd.prog 105 [.sl 3 (l.map Pr.av) .none] (rowsP (halvesL l)) := by
  intro M
  refine acalls_of tabOK Tryd.func105 rfl (by decide) (by simp [Tryd.f105]) ?_
  have la : ((l.map Pr.av).length : Int) = (l.length : Int) := by simp
  unfold halvesL
  by_cases h4 : l.length ≤ 4
  · have d4 : decide ((l.length : Int) ≤ 4) = true := by simp; omega
    rw [if_pos h4]
    repeat' (first | (show DW _ _ _ _ _ _ _ _; first | refine DW_V tabs rfl rfl rfl rfl (congrArg AV.bool d4) ?_ | refine DW_V tabs rfl rfl rfl rfl (congrArg (AV.int _) la) ?_ | refine DW_A tabs rfl ?_ | refine DW_nil ?_ | refine DW_lits tabOK rfl rfl rfl rfl rfl rfl rfl rfl rfl rfl rfl rfl rfl ?_ | refine DW_append_own tabOK rfl rfl rfl rfl rfl rfl rfl rfl rfl rfl rfl rfl rfl rfl rfl (by simp; omega) (by simp; omega) ?_) | (show W _ _ _ _ _ _; first | refine W_seq ?_ | refine W_text rfl (fun _ _ _ h => h) ?_ | refine W_block ?_ | refine W_skip ?_ | refine W_exit ?_ | refine W_ret ?_ | refine W_true rfl ?_ | refine W_false rfl ?_ | refine W_cond rfl (fun _ => ?_) (fun _ => ?_) | refine W_draw mixed [0, 1, 2, 3, 4, 5, 6, 7, 8, 9, 10, 11] [.P, .P, .P, .P, .P, .P, .P, .P, .P, .P, .P, .P] rfl rfl (by kernel_rfl) ?_))
    exact ⟨rfl, _, rfl, rfl, rfl⟩
  · have d4 : decide ((l.length : Int) ≤ 4) = false := by simp; omega
    have w1 := half_is l.length (by omega)
    rw [if_neg h4]
    repeat' (first | (show DW _ _ _ _ _ _ _ _; first | refine DW_V tabs rfl rfl rfl rfl (congrArg AV.bool d4) ?_ | refine DW_V tabs rfl rfl rfl rfl (congrArg (AV.int _) la) ?_ | refine DW_V tabs rfl rfl rfl rfl (congrArg (AV.int _) w1) ?_ | refine DW_A tabs rfl ?_ | refine DW_nil ?_ | refine DW_lits tabOK rfl rfl rfl rfl rfl rfl rfl rfl rfl rfl rfl rfl rfl ?_ | refine DW_append_own tabOK rfl rfl rfl rfl rfl rfl rfl rfl rfl rfl rfl rfl rfl rfl rfl (by simp; omega) (by simp; omega) ?_) | (show W _ _ _ _ _ _; first | refine W_seq ?_ | refine W_text rfl (fun _ _ _ h => h) ?_ | refine W_block ?_ | refine W_skip ?_ | refine W_exit ?_ | refine W_ret ?_ | refine W_true rfl ?_ | refine W_false rfl ?_ | refine W_cond rfl (fun _ => ?_) (fun _ => ?_) | refine W_draw mixed [0, 1, 2, 3, 4, 5, 6, 7, 8, 9, 10, 11] [.P, .P, .P, .P, .P, .P, .P, .P, .P, .P, .P, .P] rfl rfl (by kernel_rfl) ?_))
    refine DW_to tabOK rfl rfl rfl rfl (n := l.length / 2) rfl rfl rfl rfl rfl rfl (by omega) ?_
    repeat' (first | (show DW _ _ _ _ _ _ _ _; first | refine DW_V tabs rfl rfl rfl rfl (congrArg (AV.int _) la) ?_ | refine DW_V tabs rfl rfl rfl rfl (congrArg (AV.int _) w1) ?_ | refine DW_A tabs rfl ?_ | refine DW_nil ?_ | refine DW_lits tabOK rfl rfl rfl rfl rfl rfl rfl rfl rfl rfl rfl rfl rfl ?_ | refine DW_append_own tabOK rfl rfl rfl rfl rfl rfl rfl rfl rfl rfl rfl rfl rfl rfl rfl (by simp; omega) (by simp; omega) ?_) | (show W _ _ _ _ _ _; first | refine W_seq ?_ | refine W_text rfl (fun _ _ _ h => h) ?_ | refine W_block ?_ | refine W_skip ?_ | refine W_exit ?_ | refine W_ret ?_ | refine W_true rfl ?_ | refine W_false rfl ?_ | refine W_cond rfl (fun _ => ?_) (fun _ => ?_) | refine W_draw mixed [0, 1, 2, 3, 4, 5, 6, 7, 8, 9, 10, 11] [.P, .P, .P, .P, .P, .P, .P, .P, .P, .P, .P, .P] rfl rfl (by kernel_rfl) ?_))
    refine DW_from tabOK rfl rfl rfl rfl (lo := l.length / 2) rfl rfl rfl rfl rfl rfl (by omega) ?_
    repeat' (first | (show DW _ _ _ _ _ _ _ _; first | refine DW_A tabs rfl ?_ | refine DW_nil ?_ | refine DW_lits tabOK rfl rfl rfl rfl rfl rfl rfl rfl rfl rfl rfl rfl rfl ?_ | refine DW_append_own tabOK rfl rfl rfl rfl rfl rfl rfl rfl rfl rfl rfl rfl rfl rfl rfl (by simp; omega) (by simp; omega) ?_) | (show W _ _ _ _ _ _; first | refine W_seq ?_ | refine W_text rfl (fun _ _ _ h => h) ?_ | refine W_block ?_ | refine W_skip ?_ | refine W_exit ?_ | refine W_ret ?_ | refine W_true rfl ?_ | refine W_false rfl ?_ | refine W_cond rfl (fun _ => ?_) (fun _ => ?_) | refine W_draw mixed [0, 1, 2, 3, 4, 5, 6, 7, 8, 9, 10, 11] [.P, .P, .P, .P, .P, .P, .P, .P, .P, .P, .P, .P] rfl rfl (by kernel_rfl) ?_))
    exact ⟨rfl, _, rfl, rfl, rfl⟩

def rowsV (h : Nat) (l : List (List (Vt h))) : AV := .sl 1 (l.map fun r => .sl 1 (r.map (avV h)) .none) .full
set_option maxRecDepth 100000 in
theorem halvesV_ok (h : Nat) (l : List (Vt h)) (hl : l.length < 100000) : APure Tryd.prog 44 [.sl 1 (l.map (avV h)) .none] (rowsV h (halvesL l)) := by
  intro M
  refine acalls_of tabOK Tryd.func44 rfl (by decide) (by simp [Tryd.f44]) ?_
  have la : ((l.map (avV h)).length : Int) = (l.length : Int) := by simp
  unfold halvesL
  by_cases h4 : l.length ≤ 4
  · have d4 : decide ((l.length : Int) ≤ 4) = true := by simp; omega
    rw [if_pos h4]
    repeat' (first | (show DW _ _ _ _ _ _ _ _; first | refine DW_V tabs rfl rfl rfl rfl (congrArg AV.bool d4) ?_ | refine DW_V tabs rfl rfl rfl rfl (congrArg (AV.int _) la) ?_ | refine DW_A tabs rfl ?_ | refine DW_nil ?_ | refine DW_lits tabOK rfl rfl rfl rfl rfl rfl rfl rfl rfl rfl rfl rfl rfl ?_ | refine DW_append_own tabOK rfl rfl rfl rfl rfl rfl rfl rfl rfl rfl rfl rfl rfl rfl rfl (by simp; omega) (by simp; omega) ?_) | (show W _ _ _ _ _ _; first | refine W_seq ?_ | refine W_text rfl (fun _ _ _ h => h) ?_ | refine W_block ?_ | refine W_skip ?_ | refine W_exit ?_ | refine W_ret ?_ | refine W_true rfl ?_ | refine W_false rfl ?_ | refine W_cond rfl (fun _ => ?_) (fun _ => ?_) | refine W_draw mixed [0, 1, 2, 3, 4, 5, 6, 7, 8, 9, 10, 11] [.P, .P, .P, .P, .P, .P, .P, .P, .P, .P, .P, .P] rfl rfl (by kernel_rfl) ?_))
    exact ⟨rfl, _, rfl, rfl, rfl⟩
  · have d4 : decide ((l.length : Int) ≤ 4) = false := by simp; omega
    have w1 := half_is l.length (by omega)
    rw [if_neg h4]
    repeat' (first | (show DW _ _ _ _ _ _ _ _; first | refine DW_V tabs rfl rfl rfl rfl (congrArg AV.bool d4) ?_ | refine DW_V tabs rfl rfl rfl rfl (congrArg (AV.int _) la) ?_ | refine DW_V tabs rfl rfl rfl rfl (congrArg (AV.int _) w1) ?_ | refine DW_A tabs rfl ?_ | refine DW_nil ?_ | refine DW_lits tabOK rfl rfl rfl rfl rfl rfl rfl rfl rfl rfl rfl rfl rfl ?_ | refine DW_append_own tabOK rfl rfl rfl rfl rfl rfl rfl rfl rfl rfl rfl rfl rfl rfl rfl (by simp; omega) (by simp; omega) ?_) | (show W _ _ _ _ _ _; first | refine W_seq ?_ | refine W_text rfl (fun _ _ _ h => h) ?_ | refine W_block ?_ | refine W_skip ?_ | refine W_exit ?_ | refine W_ret ?_ | refine W_true rfl ?_ | refine W_false rfl ?_ | refine W_cond rfl (fun _ => ?_) (fun _ => ?_) | refine W_draw mixed [0, 1, 2, 3, 4, 5, 6, 7, 8, 9, 10, 11] [.P, .P, .P, .P, .P, .P, .P, .P, .P, .P, .P, .P] rfl rfl (by kernel_rfl) ?_))
    refine DW_to tabOK rfl rfl rfl rfl (n := l.length / 2) rfl rfl rfl rfl rfl rfl (by omega) ?_
    repeat' (first | (show DW _ _ _ _ _ _ _ _; first | refine DW_V tabs rfl rfl rfl rfl (congrArg (AV.int _) la) ?_ | refine DW_V tabs rfl rfl rfl rfl (congrArg (AV.int _) w1) ?_ | refine DW_A tabs rfl ?_ | refine DW_nil ?_ | refine DW_lits tabOK rfl rfl rfl rfl rfl rfl rfl rfl rfl rfl rfl rfl rfl ?_ | refine DW_append_own tabOK rfl rfl rfl rfl rfl rfl rfl rfl rfl rfl rfl rfl rfl rfl rfl (by simp; omega) (by simp; omega) ?_) | (show W _ _ _ _ _ _; first | refine W_seq ?_ | refine W_text rfl (fun _ _ _ h => h) ?_ | refine W_block ?_ | refine W_skip ?_ | refine W_exit ?_ | refine W_ret ?_ | refine W_true rfl ?_ | refine W_false rfl ?_ | refine W_cond rfl (fun _ => ?_) (fun _ => ?_) | refine W_draw mixed [0, 1, 2, 3, 4, 5, 6, 7, 8, 9, 10, 11] [.P, .P, .P, .P, .P, .P, .P, .P, .P, .P, .P, .P] rfl rfl (by kernel_rfl) ?_))
    refine DW_from tabOK rfl rfl rfl rfl (lo := l.length / 2) rfl rfl rfl rfl rfl rfl (by omega) ?_
    repeat' (first | (show DW _ _ _ _ _ _ _ _; first | refine DW_A tabs rfl ?_ | refine DW_nil ?_ | refine DW_lits tabOK rfl rfl rfl rfl rfl rfl rfl rfl rfl rfl rfl rfl rfl ?_ | refine DW_append_own tabOK rfl rfl rfl rfl rfl rfl rfl rfl rfl rfl rfl rfl rfl rfl rfl (by simp; omega) (by simp; omega) ?_) | (show W _ _ _ _ _ _; first | refine W_seq ?_ | refine W_text rfl (fun _ _ _ h => h) ?_ | refine W_block ?_ | refine W_skip ?_ | refine W_exit ?_ | refine W_ret ?_ | refine W_true rfl ?_ | refine W_false rfl ?_ | refine W_cond rfl (fun _ => ?_) (fun _ => ?_) | refine W_draw mixed [0, 1, 2, 3, 4, 5, 6, 7, 8, 9, 10, 11] [.P, .P, .P, .P, .P, .P, .P, .P, .P, .P, .P, .P] rfl rfl (by kernel_rfl) ?_))
    exact ⟨rfl, _, rfl, rfl, rfl⟩

def rowsP0 (l : List (Vt 0)) : AV := .sl 1 (l.map fun r => .sl 3 (r.row.map Pr.av) .none) .full
theorem vx0_app {a : List (Vt 0)} {r : Vt 0} {t : Tag} : AV.sl 1 (a.map (avV 0) ++ [.iface 74 (.sl 3 (r.row.map Pr.av) .none)]) t = .sl 1 ((a ++ [r]).map (avV 0)) t := by
  rw [List.map_append]
  rfl
set_option maxRecDepth 100000 in
theorem leaves_ok (l : List Pr) (hl : l.length < 100000) : APure Tryd.prog 101 [.sl 3 (l.map Pr.av) .none] (.sl 1 ((halvesL l : List (Vt 0)).map (avV 0)) .none) := by
  refine pure_sub (closed1 (closed_prs _)) (closed_vxs 0 _) ?_
  refine acalls_of tabOK Tryd.func101 rfl (by decide) (by simp [Tryd.f101]) ?_
  have k0 := halvesP_ok l hl
  have hlen := halves_len l
  have h20 : (halvesL l).length ≤ 2 := by rw [hlen]; split <;> omega
  obtain ⟨rows, hrows⟩ : ∃ rows : List (Vt 0), rows = halvesL l := ⟨_, rfl⟩
  have h2 : rows.length ≤ 2 := by rw [hrows]; exact h20
  have k : APure Tryd.prog 105 [.sl 3 (l.map Pr.av) .none] (rowsP0 rows) := by rw [hrows]; exact k0
  have hg : ((halvesL l : List (Vt 0)).map (avV 0)) = rows.map (avV 0) := by rw [hrows]
  rw [hg]
  unfold rowsP0 at k
  have la : ((rows.map fun r => AV.sl 3 (r.row.map Pr.av) .none).length : Int) = (rows.length : Int) := by simp
  repeat' (first | (show DW _ _ _ _ _ _ _ _; first | refine DW_V tabs rfl rfl rfl rfl (congrArg (AV.int _) la) ?_ | refine DW_A tabs rfl ?_ | refine DW_nil ?_ | refine DW_lits tabOK rfl rfl rfl rfl rfl rfl rfl rfl rfl rfl rfl rfl rfl ?_ | refine DW_pure rfl rfl rfl rfl rfl k ?_ | refine DW_append_own tabOK rfl rfl rfl rfl rfl rfl rfl rfl rfl rfl rfl rfl rfl rfl rfl (by simp; omega) (by simp; omega) ?_) | (show W _ _ _ _ _ _; first | refine W_seq ?_ | refine W_text rfl (fun _ _ _ h => h) ?_ | refine W_block ?_ | refine W_skip ?_ | refine W_exit ?_ | refine W_ret ?_ | refine W_true rfl ?_ | refine W_false rfl ?_ | refine W_cond rfl (fun _ => ?_) (fun _ => ?_)))
  refine W_count rows.length (fun i f N => ∃ (g : Nat), N = tokM g ∧ f = ⟨[(3, .sl 1 ((rows.take i).map (avV 0)) (.tok 0 g)), (7, .sl 1 (rows.map fun r => .sl 3 (r.row.map Pr.av) .none) .full), (8, .int .i64 (rows.length : Int)), (9, .int .i64 (i : Int))], []⟩) (Nat.zero_le _) ⟨0, rfl, rfl⟩
    ((Joint.tok 3 rfl (sz' := 1) (.inr rfl)).trans (Joint.le ?_ (tokM_of rfl rfl))) ?_
  · skip
    repeat (refine AF.le_cons rfl ?_)
    exact AF.le_nil rfl
  · rintro i f N hi ⟨g, rfl, rfl⟩
    by_cases h1 : i < rows.length
    · have d1 : decide ((i : Int) < (rows.length : Int)) = true := by simp; omega
      have hx : rows[i]? = some rows[i] := List.getElem?_eq_getElem h1
      have fi := wrap_succ (i := i) (by omega)
      have hs := take_succ hx
      generalize rows[i] = r at hx hs
      repeat' (first | (show DW _ _ _ _ _ _ _ _; first | refine DW_V tabs rfl rfl rfl rfl (congrArg AV.bool d1) ?_ | refine DW_V tabs rfl rfl rfl rfl (congrArg (AV.int _) fi) ?_ | refine DW_V tabs rfl rfl rfl rfl (congrArg (AV.int _) la) ?_ | refine DW_A tabs rfl ?_ | refine DW_nil ?_ | refine DW_lits tabOK rfl rfl rfl rfl rfl rfl rfl rfl rfl rfl rfl rfl rfl ?_ | refine DW_append_own tabOK rfl rfl rfl rfl rfl rfl rfl rfl rfl rfl rfl rfl rfl rfl rfl (by simp; omega) (by simp; omega) ?_) | (show W _ _ _ _ _ _; first | refine W_seq ?_ | refine W_text rfl (fun _ _ _ h => h) ?_ | refine W_block ?_ | refine W_skip ?_ | refine W_exit ?_ | refine W_ret ?_ | refine W_true rfl ?_ | refine W_false rfl ?_ | refine W_cond rfl (fun _ => ?_) (fun _ => ?_)))
      refine DW_index tabOK rfl rfl rfl rfl rfl rfl rfl rfl rfl rfl (Int.natCast_nonneg _) (map_get hx) ?_
      repeat' (first | (show DW _ _ _ _ _ _ _ _; first | refine DW_V tabs rfl rfl rfl rfl (congrArg (AV.int _) fi) ?_ | refine DW_V tabs rfl rfl rfl rfl (congrArg (AV.int _) la) ?_ | refine DW_A tabs rfl ?_ | refine DW_nil ?_ | refine DW_lits tabOK rfl rfl rfl rfl rfl rfl rfl rfl rfl rfl rfl rfl rfl ?_ | refine DW_append_own tabOK rfl rfl rfl rfl rfl rfl rfl rfl rfl rfl rfl rfl rfl rfl rfl (by simp; omega) (by simp; omega) ?_) | (show W _ _ _ _ _ _; first | refine W_seq ?_ | refine W_text rfl (fun _ _ _ h => h) ?_ | refine W_block ?_ | refine W_skip ?_ | refine W_exit ?_ | refine W_ret ?_ | refine W_true rfl ?_ | refine W_false rfl ?_ | refine W_cond rfl (fun _ => ?_) (fun _ => ?_)))
      refine ⟨h1, _, _, ⟨g + 1, rfl, rfl⟩, Joint.le (AF.le_cons ?_ (AF.le_cons rfl (AF.le_cons rfl (AF.le_cons rfl (AF.le_nil rfl))))) (tokM_of rfl rfl)⟩
      rw [hs]
      exact vx0_app
    · have d1 : decide ((i : Int) < (rows.length : Int)) = false := by simp; omega
      obtain rfl : i = rows.length := by omega
      repeat' (first | (show DW _ _ _ _ _ _ _ _; first | refine DW_V tabs rfl rfl rfl rfl (congrArg AV.bool d1) ?_ | refine DW_A tabs rfl ?_ | refine DW_nil ?_ | refine DW_lits tabOK rfl rfl rfl rfl rfl rfl rfl rfl rfl rfl rfl rfl rfl ?_ | refine DW_append_own tabOK rfl rfl rfl rfl rfl rfl rfl rfl rfl rfl rfl rfl rfl rfl rfl (by simp; omega) (by simp; omega) ?_) | (show W _ _ _ _ _ _; first | refine W_seq ?_ | refine W_text rfl (fun _ _ _ h => h) ?_ | refine W_block ?_ | refine W_skip ?_ | refine W_exit ?_ | refine W_ret ?_ | refine W_true rfl ?_ | refine W_false rfl ?_ | refine W_cond rfl (fun _ => ?_) (fun _ => ?_)))
      rw [List.take_length]
      exact ⟨rfl, _, rfl, _, rfl, SubC.untag (closed_vxs 0 _)⟩
end Go.Proofs.YthdeopopodhimaaDoor

/- Own rows of values of one cell. -/
set_option linter.unusedVariables false
set_option linter.unusedSimpArgs false
namespace Go.Ab
open Go.RowKit

def rowG (xs : List AV) (cap : Nat) : List AV := xs ++ List.replicate (cap - xs.length) .top
theorem rowG_len {xs : List AV} {cap : Nat} (h : xs.length ≤ cap) : (rowG xs cap).length = cap := by
  simp [rowG]; omega
theorem rowG_take (xs : List AV) (cap : Nat) : (rowG xs cap).take xs.length = xs := by simp [rowG]
theorem rowG_get {k id : Nat} {xs cells : List AV} {n cap : Nat} (hn : n ≤ xs.length) (hc : cells.take xs.length = xs) (hlen : cells.length = cap) (hl : xs.length ≤ cap) (hcl : ∀ x, x ∈ xs → Closed x) :
    (rowG (xs.take n) cap).length = cells.length ∧ ∀ (j : Nat) (x y : AV), cells[j]? = some x → (rowG (xs.take n) cap)[j]? = some y → SubK k id x y := by
  have hl' : (xs.take n).length = n := by simp; omega
  refine ⟨by rw [rowG_len (by omega), hlen], fun j x y hx hy => ?_⟩
  by_cases hj : j < n
  · have h1 : (cells.take xs.length)[j]? = some x := by
      rw [List.getElem?_take, if_pos (by omega)]
      exact hx
    rw [hc] at h1
    simp only [rowG] at hy
    rw [List.getElem?_append_left (by omega), List.getElem?_take, if_pos hj, h1] at hy
    cases hy
    exact SubK.of_closed (hcl _ (List.mem_of_getElem? h1))
  · simp only [rowG] at hy
    rw [List.getElem?_append_right (by omega)] at hy
    have := List.mem_of_getElem? hy
    rw [List.mem_replicate] at this
    rw [this.2]
    exact SubK.top
theorem rowG_all {k id : Nat} {xs cells : List AV} {cap : Nat} (hc : cells.take xs.length = xs) (hlen : cells.length = cap) (hl : xs.length ≤ cap) (hcl : ∀ x, x ∈ xs → Closed x) :
    (rowG xs cap).length = cells.length ∧ ∀ (j : Nat) (x y : AV), cells[j]? = some x → (rowG xs cap)[j]? = some y → SubK k id x y := by
  have := rowG_get (k := k) (id := id) (Nat.le_refl _) hc hlen hl hcl
  rwa [List.take_length] at this
theorem flat_one {xs : List AV} (h : ∀ x, x ∈ xs → x.cells = [x]) : flat xs = xs := by
  induction xs with
  | nil => rfl
  | cons a r ih =>
    have h1 := h a (by simp)
    have h2 := ih (fun x hx => h x (by simp [hx]))
    show a.cells ++ flat r = _
    rw [h1, h2]
    rfl
theorem Sub.iface {t : TypeId} {x y : AV} (h : Sub x y) : Sub (.iface t x) (.iface t y) := by
  intro μ F w v hr
  cases hr with
  | iface _ _ u hu => exact .iface _ _ _ (h _ _ _ _ hu)
theorem Sub.ref1 {x y : AV} (h : Sub x y) : Sub (.ref [x]) (.ref [y]) := by
  intro μ F w v hr
  cases hr with
  | ref cells b o vals h1 h2 h3 =>
    refine .ref _ b o vals ?_ ?_ ?_
    · intro j c hc
      match j, hc with
      | 0, _ => exact h1 0 x rfl
      | j + 1, hc => simp at hc
    · intro j c hc
      match j, hc with
      | 0, _ => exact h2 0 x rfl
      | j + 1, hc => simp at hc
    · intro j c hc
      match j, hc with
      | 0, hc =>
        simp at hc
        subst hc
        exact h _ _ _ _ (h3 0 x rfl)
      | j + 1, hc => simp at hc
theorem Sub.nil {sz sz' : Nat} : Sub (.sl sz [] .full) (.sl sz' [] .none) := fun μ F w v h => Sub.empty (.inl rfl) μ F w v (rep_untag h)
theorem Sub.trans {x y z : AV} (h1 : Sub x y) (h2 : Sub y z) : Sub x z := fun μ F w v h => h2 _ _ _ _ (h1 _ _ _ _ h)

def isNeq : BinOp → Bool
  | .neq => true
  | _ => false
theorem opP_refnil {P : Program} {b : BinOp} (hb : b = .eql ∨ b = .neq) {t yt : TypeId} {x y : Operand} {ty : TypeId} {ρ : Operand → AV} {c : List AV} (ht : P.underlying t = some (.pointer (P.pointee t))) (hx : ρ x = .ref c) (hy : ρ y = .nilptr) :
    OpP P (.binOp b t x y yt) ty ρ (.bool (isNeq b)) := by
  refine opP_of_same ?_
  intro μ F w ρc o ho hty hr
  have h1 := hr x (by simp [Op.operands])
  have h2 := hr y (by simp [Op.operands])
  rw [hx] at h1
  rw [hy] at h2
  generalize hv1 : ρc x = v1 at h1
  generalize hv2 : ρc y = v2 at h2
  obtain ⟨bb, oo, rfl⟩ := rep_ref_form h1
  cases h2
  rcases hb with rfl | rfl
  · exact ⟨.bool false, by simp [execOp, ho, hv1, hv2, eqGuard, run_eql_pointer_nil w t _ ht], .bool _⟩
  · exact ⟨.bool true, by simp [execOp, ho, hv1, hv2, eqGuard, run_neq_pointer_nil w t _ ht], .bool _⟩
theorem opP_nilnil {P : Program} {b : BinOp} (hb : b = .eql ∨ b = .neq) {t yt : TypeId} {x y : Operand} {ty : TypeId} {ρ : Operand → AV} (ht : P.underlying t = some (.pointer (P.pointee t))) (hx : ρ x = .nilptr) (hy : ρ y = .nilptr) :
    OpP P (.binOp b t x y yt) ty ρ (.bool (!isNeq b)) := by
  refine opP_of_same ?_
  intro μ F w ρc o ho hty hr
  have h1 := hr x (by simp [Op.operands])
  have h2 := hr y (by simp [Op.operands])
  rw [hx] at h1
  rw [hy] at h2
  generalize hv1 : ρc x = v1 at h1
  generalize hv2 : ρc y = v2 at h2
  cases h1
  cases h2
  rcases hb with rfl | rfl
  · exact ⟨.bool true, by simp [execOp, ho, hv1, hv2, eqGuard, run_eql_pointer_nil w t _ ht], .bool _⟩
  · exact ⟨.bool false, by simp [execOp, ho, hv1, hv2, eqGuard, run_neq_pointer_nil w t _ ht], .bool _⟩
theorem opR_ptrnil {P : Program} {b : BinOp} (hb : b = .eql ∨ b = .neq) {t yt : TypeId} {x y : Operand} {ty : TypeId} {ρ : Operand → AV} {M : Mem} {id off : Nat} {l : List AV} (ht : P.underlying t = some (.pointer (P.pointee t))) (hx : ρ x = .ptr id off) (hM : M.get id = some (.cells l)) (hy : ρ y = .nilptr) :
    OpR P (.binOp b t x y yt) ty ρ M (.bool (isNeq b)) := by
  intro μ F w ρc o hg ho hty hr
  have h1 := hr x (by simp [Op.operands])
  have h2 := hr y (by simp [Op.operands])
  rw [hx] at h1
  rw [hy] at h2
  generalize hv1 : ρc x = v1 at h1
  generalize hv2 : ρc y = v2 at h2
  cases h2
  obtain ⟨bb, c, tb, o1, _⟩ := hg.obj id l hM
  cases h1 with
  | ptr _ _ v k1 k2 k3 =>
  have hv := k3 bb o1
  subst hv
  rcases hb with rfl | rfl
  · exact ⟨.bool false, w, by simp [execOp, ho, hv1, hv2, eqGuard, run_eql_pointer_nil w t _ ht], Below.refl _ _, .bool _⟩
  · exact ⟨.bool true, w, by simp [execOp, ho, hv1, hv2, eqGuard, run_neq_pointer_nil w t _ ht], Below.refl _ _, .bool _⟩
section
variable {P : Program} {τ : Tab} {ops : Array Oper} {cls : Nat → Cls} {Q : AX → AF → Mem → Prop} {ds : List ADef} {ls : List Nat} {i : Nat} {o : Oper} {t : List (Nat × AV)} {M : Mem}
theorem DW_refnil {d : Nat} (hi : ops[i]? = some o) (hw : wantedA ops ⟨t, ds⟩ o = some true) (hd : o.dst = some d) {b : BinOp} {ts yt : TypeId} {x y : Operand} (ho : o.op = .binOp b ts x y yt) (hb : b = .eql ∨ b = .neq) (ht : P.underlying ts = some (.pointer (P.pointee ts))) {c : List AV} (hx : AF.ev ⟨t, ds⟩ x = .ref c) (hy : AF.ev ⟨t, ds⟩ y = .nilptr)
    (h : DW P ops cls Q ds ls ((d, .bool (isNeq b)) :: t) M) : DW P ops cls Q ds (i :: ls) t M :=
  DW_ofP hi hw hd (by rw [ho]; exact opP_refnil hb ht hx hy) h
theorem DW_nilnil {d : Nat} (hi : ops[i]? = some o) (hw : wantedA ops ⟨t, ds⟩ o = some true) (hd : o.dst = some d) {b : BinOp} {ts yt : TypeId} {x y : Operand} (ho : o.op = .binOp b ts x y yt) (hb : b = .eql ∨ b = .neq) (ht : P.underlying ts = some (.pointer (P.pointee ts))) (hx : AF.ev ⟨t, ds⟩ x = .nilptr) (hy : AF.ev ⟨t, ds⟩ y = .nilptr)
    (h : DW P ops cls Q ds ls ((d, .bool (!isNeq b)) :: t) M) : DW P ops cls Q ds (i :: ls) t M :=
  DW_ofP hi hw hd (by rw [ho]; exact opP_nilnil hb ht hx hy) h
theorem DW_ptrnil {d : Nat} (hi : ops[i]? = some o) (hw : wantedA ops ⟨t, ds⟩ o = some true) (hd : o.dst = some d) {b : BinOp} {ts yt : TypeId} {x y : Operand} (ho : o.op = .binOp b ts x y yt) (hb : b = .eql ∨ b = .neq) (hc : notP (cls i) = true) (ht : P.underlying ts = some (.pointer (P.pointee ts))) {id off : Nat} {l : List AV} (hx : AF.ev ⟨t, ds⟩ x = .ptr id off) (hM : M.get id = some (.cells l)) (hy : AF.ev ⟨t, ds⟩ y = .nilptr)
    (h : DW P ops cls Q ds ls ((d, .bool (isNeq b)) :: t) M) : DW P ops cls Q ds (i :: ls) t M :=
  DW_ofR hi hw hd hc (by rw [ho]; exact opR_ptrnil hb ht hx hM hy) h
end
end Go.Ab

/- Rows of vertices grow, and are laid one behind the other. No further condition. -/
set_option linter.unusedVariables false
set_option linter.unusedSimpArgs false
namespace Go.Proofs.YthdeopopodhimaaDoor
open Go.Ab

set_option maxRecDepth 100000 in
theorem growV_ok (n : Nat) (h0 : 0 < n) (h1 : n < 1000000) (M : Mem) : ACalls Tryd.prog 118 [.sl 0 [] .full, .int .i64 (n : Int)] M (fun e M' => ∃ (cap : Nat) (l' : List AV), n ≤ cap ∧ l'.length = cap ∧ e = .ret (.osl M.next 0 0 cap 1) ∧ M' = M.push (.cells l')) := by
  refine acalls_of tabOK Tryd.func118 rfl (by decide) (by simp [Tryd.f118]) ?_
  have d1 : decide ((n : Int) < 0) = false := by simp
  have w0 : IntKind.wrap .i64 ((n : Int) - 0) = (n : Int) := (Go.Ab.wrap_small (by omega) (by omega)).trans (by omega)
  have d2 : decide ((0 : Int) < (n : Int)) = true := by simp; omega
  repeat' (first | (show DW _ _ _ _ _ _ _ _; first | refine DW_V tabs rfl rfl rfl rfl (congrArg AV.bool d1) ?_ | refine DW_A tabs rfl ?_ | refine DW_nil ?_ | refine DW_lits tabOK rfl rfl rfl rfl rfl rfl rfl rfl rfl rfl rfl rfl rfl ?_ | refine DW_append_own tabOK rfl rfl rfl rfl rfl rfl rfl rfl rfl rfl rfl rfl rfl rfl rfl (by simp; omega) (by simp; omega) ?_) | (show W _ _ _ _ _ _; first | refine W_seq ?_ | refine W_text rfl (fun _ _ _ h => h) ?_ | refine W_block ?_ | refine W_skip ?_ | refine W_exit ?_ | refine W_ret ?_ | refine W_true rfl ?_ | refine W_false rfl ?_ | refine W_cond rfl (fun _ => ?_) (fun _ => ?_)))
  refine DW_cap tabOK rfl rfl rfl rfl rfl rfl rfl ?_
  repeat' (first | (show DW _ _ _ _ _ _ _ _; first | refine DW_V tabs rfl rfl rfl rfl (congrArg AV.bool d2) ?_ | refine DW_V tabs rfl rfl rfl rfl (congrArg (AV.int _) w0) ?_ | refine DW_A tabs rfl ?_ | refine DW_nil ?_ | refine DW_lits tabOK rfl rfl rfl rfl rfl rfl rfl rfl rfl rfl rfl rfl rfl ?_ | refine DW_append_own tabOK rfl rfl rfl rfl rfl rfl rfl rfl rfl rfl rfl rfl rfl rfl rfl (by simp; omega) (by simp; omega) ?_) | (show W _ _ _ _ _ _; first | refine W_seq ?_ | refine W_text rfl (fun _ _ _ h => h) ?_ | refine W_block ?_ | refine W_skip ?_ | refine W_exit ?_ | refine W_ret ?_ | refine W_true rfl ?_ | refine W_false rfl ?_ | refine W_cond rfl (fun _ => ?_) (fun _ => ?_)))
  refine DW_cap tabOK rfl rfl rfl rfl rfl rfl rfl ?_
  repeat' (first | (show DW _ _ _ _ _ _ _ _; first | refine DW_A tabs rfl ?_ | refine DW_nil ?_ | refine DW_lits tabOK rfl rfl rfl rfl rfl rfl rfl rfl rfl rfl rfl rfl rfl ?_ | refine DW_append_own tabOK rfl rfl rfl rfl rfl rfl rfl rfl rfl rfl rfl rfl rfl rfl rfl (by simp; omega) (by simp; omega) ?_) | (show W _ _ _ _ _ _; first | refine W_seq ?_ | refine W_text rfl (fun _ _ _ h => h) ?_ | refine W_block ?_ | refine W_skip ?_ | refine W_exit ?_ | refine W_ret ?_ | refine W_true rfl ?_ | refine W_false rfl ?_ | refine W_cond rfl (fun _ => ?_) (fun _ => ?_)))
  refine DW_slice00 tabOK rfl rfl rfl rfl rfl rfl rfl rfl rfl ?_
  repeat' (first | (show DW _ _ _ _ _ _ _ _; first | refine DW_A tabs rfl ?_ | refine DW_nil ?_ | refine DW_lits tabOK rfl rfl rfl rfl rfl rfl rfl rfl rfl rfl rfl rfl rfl ?_ | refine DW_append_own tabOK rfl rfl rfl rfl rfl rfl rfl rfl rfl rfl rfl rfl rfl rfl rfl (by simp; omega) (by simp; omega) ?_) | (show W _ _ _ _ _ _; first | refine W_seq ?_ | refine W_text rfl (fun _ _ _ h => h) ?_ | refine W_block ?_ | refine W_skip ?_ | refine W_exit ?_ | refine W_ret ?_ | refine W_true rfl ?_ | refine W_false rfl ?_ | refine W_cond rfl (fun _ => ?_) (fun _ => ?_)))
  refine DW_zapp tabOK rfl rfl rfl rfl rfl (n := n) rfl rfl rfl rfl rfl rfl rfl rfl h0 (by simp; omega) (by omega) ?_
  intro cap' l' g1 g2
  repeat' (first | (show DW _ _ _ _ _ _ _ _; first | refine DW_A tabs rfl ?_ | refine DW_nil ?_ | refine DW_lits tabOK rfl rfl rfl rfl rfl rfl rfl rfl rfl rfl rfl rfl rfl ?_ | refine DW_append_own tabOK rfl rfl rfl rfl rfl rfl rfl rfl rfl rfl rfl rfl rfl rfl rfl (by simp; omega) (by simp; omega) ?_) | (show W _ _ _ _ _ _; first | refine W_seq ?_ | refine W_text rfl (fun _ _ _ h => h) ?_ | refine W_block ?_ | refine W_skip ?_ | refine W_exit ?_ | refine W_ret ?_ | refine W_true rfl ?_ | refine W_false rfl ?_ | refine W_cond rfl (fun _ => ?_) (fun _ => ?_)))
  refine DW_oslice tabOK rfl rfl rfl rfl rfl (l := l') rfl (by rw [Mem.get_push, if_pos rfl]) rfl rfl rfl rfl (by omega) (by simp) g1 ?_
  repeat' (first | (show DW _ _ _ _ _ _ _ _; first | refine DW_A tabs rfl ?_ | refine DW_nil ?_ | refine DW_lits tabOK rfl rfl rfl rfl rfl rfl rfl rfl rfl rfl rfl rfl rfl ?_ | refine DW_append_own tabOK rfl rfl rfl rfl rfl rfl rfl rfl rfl rfl rfl rfl rfl rfl rfl (by simp; omega) (by simp; omega) ?_) | (show W _ _ _ _ _ _; first | refine W_seq ?_ | refine W_text rfl (fun _ _ _ h => h) ?_ | refine W_block ?_ | refine W_skip ?_ | refine W_exit ?_ | refine W_ret ?_ | refine W_true rfl ?_ | refine W_false rfl ?_ | refine W_cond rfl (fun _ => ?_) (fun _ => ?_)))
  exact ⟨rfl, _, rfl, cap', l', g1, by simpa using g2, rfl, rfl⟩

def rowVA (h : Nat) (r : List (Vt h) × Bool) : AV := .sl 1 (r.1.map (avV h)) (tgB r.2)
theorem closed_rowsV (h : Nat) (rows : List (List (Vt h) × Bool)) (b : Bool) : Closed (.sl 1 (rows.map (rowVA h)) (tgB b)) := by
  have h1 : ∀ x, x ∈ rows.map (rowVA h) → Closed x := by
    intro x hx
    obtain ⟨a, _, rfl⟩ := List.mem_map.1 hx
    exact closed_vxsT h a.1 a.2
  have h2 : ∀ x, x ∈ rows.map (rowVA h) → ∀ c, c ∈ x.cells → Closed c := by
    intro x hx c hc
    obtain ⟨a, _, rfl⟩ := List.mem_map.1 hx
    have : c = rowVA h a := by simpa [rowVA, AV.cells] using hc
    exact this ▸ closed_vxsT h a.1 a.2
  cases b
  · exact closed_sl (.inl rfl) h1 h2
  · exact closed_sl (.inr rfl) h1 h2
def flatV {h : Nat} (rows : List (List (Vt h) × Bool)) : List (Vt h) := (rows.map (·.1)).flatten
theorem flatV_succ {h : Nat} {rows : List (List (Vt h) × Bool)} {i : Nat} {r : List (Vt h) × Bool} (hr : rows[i]? = some r) : flatV (rows.take (i + 1)) = flatV (rows.take i) ++ r.1 := by
  unfold flatV
  rw [take_succ hr]
  simp
theorem flatV_le {h : Nat} (rows : List (List (Vt h) × Bool)) (i : Nat) : (flatV (rows.take i)).length ≤ (flatV rows).length := by
  unfold flatV
  have : rows = rows.take i ++ rows.drop i := (List.take_append_drop i rows).symm
  conv => rhs; rw [this]
  rw [List.map_append, List.flatten_append, List.length_append]
  omega
def catF {h : Nat} (rows : List (List (Vt h) × Bool)) (b : Bool) (i : Nat) (x : AV) : List (Nat × AV) := [(6, x), (25, .sl 1 (rows.map (rowVA h)) (tgB b)), (26, .int .i64 (rows.length : Int)), (27, .int .i64 (i : Int))]
theorem cat_K {h k id : Nat} {rows : List (List (Vt h) × Bool)} {b : Bool} {i : Nat} {x : AV} {f : AF} (h6 : SubK k id (f.get 6) x) (h25 : f.get 25 = .sl 1 (rows.map (rowVA h)) (tgB b)) (h26 : f.get 26 = .int .i64 (rows.length : Int)) (h27 : f.get 27 = .int .i64 (i : Int)) : SubsK k id f (catF rows b i x) := by
  refine ⟨h6, ?_, ?_, ?_, trivial⟩
  · rw [h25]; exact SubK.of_closed (closed_rowsV h rows b)
  · rw [h26]; exact SubK.of_closed closed_int
  · rw [h27]; exact SubK.of_closed closed_int
theorem avs_closed (h : Nat) (l : List (Vt h)) : ∀ x, x ∈ l.map (avV h) → Closed x := by
  intro x hx
  obtain ⟨a, _, rfl⟩ := List.mem_map.1 hx
  exact closed_avV h a
theorem avs_one (h : Nat) (l : List (Vt h)) : ∀ x, x ∈ l.map (avV h) → x.cells = [x] := by
  intro x hx
  obtain ⟨a, _, rfl⟩ := List.mem_map.1 hx
  exact avV_cells h a
theorem cat_next {h : Nat} {A B : List (Vt h)} {cap' : Nat} {cells l' : List AV} (hc : cells.take A.length = A.map (avV h)) (g1 : A.length + (B.map (avV h)).length ≤ cap') (g2 : l'.length = cap' * 1)
    (g3 : l'.take ((A.length + (B.map (avV h)).length) * 1) = cells.take (A.length * 1) ++ flat (B.map (avV h))) :
    l'.take ((A ++ B).map (avV h)).length = (A ++ B).map (avV h) ∧ l'.length = cap' ∧ ((A ++ B).map (avV h)).length ≤ cap' := by
  rw [flat_one (avs_one h B), Nat.mul_one, Nat.mul_one, hc] at g3
  have e : ((A ++ B).map (avV h)).length = A.length + (B.map (avV h)).length := by simp
  rw [e]
  refine ⟨by rw [List.map_append]; exact g3, by rw [g2, Nat.mul_one], g1⟩

set_option maxRecDepth 100000 in
theorem concatV_ok (h : Nat) (rows : List (List (Vt h) × Bool)) (b : Bool) (hr : rows.length < 1000) (h0 : 0 < (flatV rows).length) (h1 : (flatV rows).length < 100000) : APure Tryd.prog 117 [.sl 1 (rows.map (rowVA h)) (tgB b)] (.sl 1 ((flatV rows).map (avV h)) .none) := by
  refine pure_sub (closed1 (closed_rowsV h rows b)) (closed_vxs h _) ?_
  refine acalls_of tabOK Tryd.func117 rfl (by decide) (by simp [Tryd.f117]) ?_
  have la : ((rows.map (rowVA h)).length : Int) = (rows.length : Int) := by simp
  repeat' (first | (show DW _ _ _ _ _ _ _ _; first | refine DW_V tabs rfl rfl rfl rfl (congrArg (AV.int _) la) ?_ | refine DW_A tabs rfl ?_ | refine DW_nil ?_ | refine DW_lits tabOK rfl rfl rfl rfl rfl rfl rfl rfl rfl rfl rfl rfl rfl ?_ | refine DW_append_own tabOK rfl rfl rfl rfl rfl rfl rfl rfl rfl rfl rfl rfl rfl rfl rfl (by simp; omega) (by simp; omega) ?_) | (show W _ _ _ _ _ _; first | refine W_seq ?_ | refine W_text rfl (fun _ _ _ h => h) ?_ | refine W_block ?_ | refine W_skip ?_ | refine W_exit ?_ | refine W_ret ?_ | refine W_true rfl ?_ | refine W_false rfl ?_ | refine W_cond rfl (fun _ => ?_) (fun _ => ?_)))
  refine W_count rows.length (fun i f N => N = ⟨0, []⟩ ∧ f = ⟨[(0, .sl 1 (rows.map (rowVA h)) (tgB b)), (3, .int .i64 ((flatV (rows.take i)).length : Int)), (9, .sl 1 (rows.map (rowVA h)) (tgB b)), (10, .int .i64 (rows.length : Int)), (11, .int .i64 (i : Int))], []⟩) (Nat.zero_le _) ⟨rfl, rfl⟩ (Joint.le ?_ (Mem.le_refl _)) ?_
  · skip
    repeat (refine AF.le_cons rfl ?_)
    exact AF.le_nil rfl
  · rintro i f N hi ⟨rfl, rfl⟩
    by_cases hi1 : i < rows.length
    · have d1 : decide ((i : Int) < (rows.length : Int)) = true := by simp; omega
      have hx : rows[i]? = some rows[i] := List.getElem?_eq_getElem hi1
      have fi := wrap_succ (i := i) (by omega)
      have hs := flatV_succ hx
      have hle := flatV_le rows (i + 1)
      generalize rows[i] = r at hx hs
      rw [hs, List.length_append] at hle
      have lr : ((r.1.map (avV h)).length : Int) = (r.1.length : Int) := by simp
      have w1 : IntKind.wrap .i64 (((flatV (rows.take i)).length : Int) + (r.1.length : Int)) = ((flatV (rows.take (i + 1))).length : Int) := by
        rw [hs, List.length_append]
        exact (Go.Ab.wrap_small (by omega) (by omega)).trans (by omega)
      have d2 : decide (((flatV (rows.take (i + 1))).length : Int) < 0) = false := by simp
      repeat' (first | (show DW _ _ _ _ _ _ _ _; first | refine DW_V tabs rfl rfl rfl rfl (congrArg AV.bool d1) ?_ | refine DW_V tabs rfl rfl rfl rfl (congrArg (AV.int _) fi) ?_ | refine DW_V tabs rfl rfl rfl rfl (congrArg (AV.int _) la) ?_ | refine DW_A tabs rfl ?_ | refine DW_nil ?_ | refine DW_lits tabOK rfl rfl rfl rfl rfl rfl rfl rfl rfl rfl rfl rfl rfl ?_ | refine DW_append_own tabOK rfl rfl rfl rfl rfl rfl rfl rfl rfl rfl rfl rfl rfl rfl rfl (by simp; omega) (by simp; omega) ?_) | (show W _ _ _ _ _ _; first | refine W_seq ?_ | refine W_text rfl (fun _ _ _ h => h) ?_ | refine W_block ?_ | refine W_skip ?_ | refine W_exit ?_ | refine W_ret ?_ | refine W_true rfl ?_ | refine W_false rfl ?_ | refine W_cond rfl (fun _ => ?_) (fun _ => ?_)))
      refine DW_index tabOK rfl rfl rfl rfl rfl rfl rfl rfl rfl rfl (Int.natCast_nonneg _) (map_get hx) ?_
      repeat' (first | (show DW _ _ _ _ _ _ _ _; first | refine DW_V tabs rfl rfl rfl rfl (congrArg AV.bool d2) ?_ | refine DW_V tabs rfl rfl rfl rfl (congrArg (AV.int _) fi) ?_ | refine DW_V tabs rfl rfl rfl rfl (congrArg (AV.int _) la) ?_ | refine DW_V tabs rfl rfl rfl rfl (congrArg (AV.int _) lr) ?_ | refine DW_V tabs rfl rfl rfl rfl (congrArg (AV.int _) w1) ?_ | refine DW_A tabs rfl ?_ | refine DW_nil ?_ | refine DW_lits tabOK rfl rfl rfl rfl rfl rfl rfl rfl rfl rfl rfl rfl rfl ?_ | refine DW_append_own tabOK rfl rfl rfl rfl rfl rfl rfl rfl rfl rfl rfl rfl rfl rfl rfl (by simp; omega) (by simp; omega) ?_) | (show W _ _ _ _ _ _; first | refine W_seq ?_ | refine W_text rfl (fun _ _ _ h => h) ?_ | refine W_block ?_ | refine W_skip ?_ | refine W_exit ?_ | refine W_ret ?_ | refine W_true rfl ?_ | refine W_false rfl ?_ | refine W_cond rfl (fun _ => ?_) (fun _ => ?_)))
      refine ⟨hi1, _, _, ⟨rfl, rfl⟩, Joint.le ?_ (Mem.le_refl _)⟩
      repeat (refine AF.le_cons rfl ?_)
      exact AF.le_nil rfl
    · have d1 : decide ((i : Int) < (rows.length : Int)) = false := by simp; omega
      obtain rfl : i = rows.length := by omega
      rw [List.take_length]
      repeat' (first | (show DW _ _ _ _ _ _ _ _; first | refine DW_V tabs rfl rfl rfl rfl (congrArg AV.bool d1) ?_ | refine DW_A tabs rfl ?_ | refine DW_nil ?_ | refine DW_lits tabOK rfl rfl rfl rfl rfl rfl rfl rfl rfl rfl rfl rfl rfl ?_ | refine DW_append_own tabOK rfl rfl rfl rfl rfl rfl rfl rfl rfl rfl rfl rfl rfl rfl rfl (by simp; omega) (by simp; omega) ?_) | (show W _ _ _ _ _ _; first | refine W_seq ?_ | refine W_text rfl (fun _ _ _ h => h) ?_ | refine W_block ?_ | refine W_skip ?_ | refine W_exit ?_ | refine W_ret ?_ | refine W_true rfl ?_ | refine W_false rfl ?_ | refine W_cond rfl (fun _ => ?_) (fun _ => ?_)))
      refine DW_call rfl rfl rfl rfl rfl rfl (growV_ok (flatV rows).length h0 (by omega) ⟨0, []⟩) ?_ (fun u M' ⟨_, _, _, _, e, _⟩ => by cases e)
      rintro u M' ⟨cap, l', g1, g2, g3, rfl⟩
      cases g3
      repeat' (first | (show DW _ _ _ _ _ _ _ _; first | refine DW_V tabs rfl rfl rfl rfl (congrArg (AV.int _) la) ?_ | refine DW_A tabs rfl ?_ | refine DW_nil ?_ | refine DW_lits tabOK rfl rfl rfl rfl rfl rfl rfl rfl rfl rfl rfl rfl rfl ?_ | refine DW_append_own tabOK rfl rfl rfl rfl rfl rfl rfl rfl rfl rfl rfl rfl rfl rfl rfl (by simp; omega) (by simp; omega) ?_) | (show W _ _ _ _ _ _; first | refine W_seq ?_ | refine W_text rfl (fun _ _ _ h => h) ?_ | refine W_block ?_ | refine W_skip ?_ | refine W_exit ?_ | refine W_ret ?_ | refine W_true rfl ?_ | refine W_false rfl ?_ | refine W_cond rfl (fun _ => ?_) (fun _ => ?_)))
      refine W_count rows.length (fun i f N => ∃ (cap : Nat) (cells : List AV) (id : Nat), id ≤ 1 ∧ (flatV (rows.take i)).length ≤ cap ∧ cells.take (flatV (rows.take i)).length = (flatV (rows.take i)).map (avV h) ∧ cells.length = cap ∧ N = ⟨id + 1, [(id, .cells cells)]⟩ ∧ f = ⟨catF rows b i (.osl id 0 (flatV (rows.take i)).length cap 1), []⟩) (Nat.zero_le _) ⟨cap, l', 0, Nat.zero_le 1, Nat.zero_le _, rfl, g2, rfl, rfl⟩ (Joint.le ?_ (Mem.le_refl _)) ?_
      · unfold catF
        repeat (refine AF.le_cons rfl ?_)
        exact AF.le_nil rfl
      · rintro i f N hi ⟨cap, cells, id, hid, hcap, hce, hcl, rfl, rfl⟩
        have hle0 := flatV_le rows i
        unfold catF
        by_cases hi1 : i < rows.length
        · have d1 : decide ((i : Int) < (rows.length : Int)) = true := by simp; omega
          have hx : rows[i]? = some rows[i] := List.getElem?_eq_getElem hi1
          have fi := wrap_succ (i := i) (by omega)
          have hs := flatV_succ hx
          have hle := flatV_le rows (i + 1)
          generalize rows[i] = r at hx hs
          rw [hs, List.length_append] at hle
          generalize flatV (rows.take i) = A at hs hle hle0 hce hcap
          have hl : (A ++ r.1).length = A.length + (r.1.map (avV h)).length := by simp
          have hid2 : id = 0 ∨ id = 1 := by omega
          rcases hid2 with rfl | rfl
          · repeat' (first | (show DW _ _ _ _ _ _ _ _; first | refine DW_V tabs rfl rfl rfl rfl (congrArg AV.bool d1) ?_ | refine DW_V tabs rfl rfl rfl rfl (congrArg (AV.int _) fi) ?_ | refine DW_V tabs rfl rfl rfl rfl (congrArg (AV.int _) la) ?_ | refine DW_A tabs rfl ?_ | refine DW_nil ?_ | refine DW_lits tabOK rfl rfl rfl rfl rfl rfl rfl rfl rfl rfl rfl rfl rfl ?_ | refine DW_append_own tabOK rfl rfl rfl rfl rfl rfl rfl rfl rfl rfl rfl rfl rfl rfl rfl (by simp; omega) (by simp; omega) ?_) | (show W _ _ _ _ _ _; first | refine W_seq ?_ | refine W_text rfl (fun _ _ _ h => h) ?_ | refine W_block ?_ | refine W_skip ?_ | refine W_exit ?_ | refine W_ret ?_ | refine W_true rfl ?_ | refine W_false rfl ?_ | refine W_cond rfl (fun _ => ?_) (fun _ => ?_)))
            refine DW_index tabOK rfl rfl rfl rfl rfl rfl rfl rfl rfl rfl (Int.natCast_nonneg _) (map_get hx) ?_
            repeat' (first | (show DW _ _ _ _ _ _ _ _; first | refine DW_V tabs rfl rfl rfl rfl (congrArg (AV.int _) fi) ?_ | refine DW_V tabs rfl rfl rfl rfl (congrArg (AV.int _) la) ?_ | refine DW_A tabs rfl ?_ | refine DW_nil ?_ | refine DW_lits tabOK rfl rfl rfl rfl rfl rfl rfl rfl rfl rfl rfl rfl rfl ?_ | refine DW_append_own tabOK rfl rfl rfl rfl rfl rfl rfl rfl rfl rfl rfl rfl rfl rfl rfl (by simp; omega) (by simp; omega) ?_) | (show W _ _ _ _ _ _; first | refine W_seq ?_ | refine W_text rfl (fun _ _ _ h => h) ?_ | refine W_block ?_ | refine W_skip ?_ | refine W_exit ?_ | refine W_ret ?_ | refine W_true rfl ?_ | refine W_false rfl ?_ | refine W_cond rfl (fun _ => ?_) (fun _ => ?_)))
            refine DW_oapp tabOK rfl rfl rfl rfl rfl (l := cells) rfl rfl rfl rfl rfl rfl rfl rfl rfl rfl (by omega) (by omega) (by simp; omega) (by simp; omega) ?_
            intro cap' l' g1 g2 g3
            repeat' (first | (show DW _ _ _ _ _ _ _ _; first | refine DW_V tabs rfl rfl rfl rfl (congrArg (AV.int _) la) ?_ | refine DW_V tabs rfl rfl rfl rfl (congrArg (AV.int _) fi) ?_ | refine DW_A tabs rfl ?_ | refine DW_nil ?_ | refine DW_lits tabOK rfl rfl rfl rfl rfl rfl rfl rfl rfl rfl rfl rfl rfl ?_ | refine DW_append_own tabOK rfl rfl rfl rfl rfl rfl rfl rfl rfl rfl rfl rfl rfl rfl rfl (by simp; omega) (by simp; omega) ?_) | (show W _ _ _ _ _ _; first | refine W_seq ?_ | refine W_text rfl (fun _ _ _ h => h) ?_ | refine W_block ?_ | refine W_skip ?_ | refine W_exit ?_ | refine W_ret ?_ | refine W_true rfl ?_ | refine W_false rfl ?_ | refine W_cond rfl (fun _ => ?_) (fun _ => ?_)))
            obtain ⟨k1, k2, k3⟩ := cat_next hce g1 g2 g3
            have hg := rowG_all (k := 1) (id := 1) k1 k2 k3 (avs_closed h _)
            refine ⟨hi1, _, _, ⟨cap', rowG ((A ++ r.1).map (avV h)) cap', 1, Nat.le_refl 1, ?_, ?_, ?_, rfl, rfl⟩, Joint.move (k := 1) (id := 1) (Nat.le_refl 1) (Nat.le_refl 1) rfl hg.1 hg.2 trivial ?_ trivial⟩
            · rw [hs]; rw [List.length_map] at k3; exact k3
            · rw [hs]; have := rowG_take ((A ++ r.1).map (avV h)) cap'; rw [List.length_map] at this; exact this
            · exact rowG_len k3
            · rw [hs, hl]
              exact cat_K SubK.osl rfl rfl rfl
          · repeat' (first | (show DW _ _ _ _ _ _ _ _; first | refine DW_V tabs rfl rfl rfl rfl (congrArg AV.bool d1) ?_ | refine DW_V tabs rfl rfl rfl rfl (congrArg (AV.int _) fi) ?_ | refine DW_V tabs rfl rfl rfl rfl (congrArg (AV.int _) la) ?_ | refine DW_A tabs rfl ?_ | refine DW_nil ?_ | refine DW_lits tabOK rfl rfl rfl rfl rfl rfl rfl rfl rfl rfl rfl rfl rfl ?_ | refine DW_append_own tabOK rfl rfl rfl rfl rfl rfl rfl rfl rfl rfl rfl rfl rfl rfl rfl (by simp; omega) (by simp; omega) ?_) | (show W _ _ _ _ _ _; first | refine W_seq ?_ | refine W_text rfl (fun _ _ _ h => h) ?_ | refine W_block ?_ | refine W_skip ?_ | refine W_exit ?_ | refine W_ret ?_ | refine W_true rfl ?_ | refine W_false rfl ?_ | refine W_cond rfl (fun _ => ?_) (fun _ => ?_)))
            refine DW_index tabOK rfl rfl rfl rfl rfl rfl rfl rfl rfl rfl (Int.natCast_nonneg _) (map_get hx) ?_
            repeat' (first | (show DW _ _ _ _ _ _ _ _; first | refine DW_V tabs rfl rfl rfl rfl (congrArg (AV.int _) fi) ?_ | refine DW_V tabs rfl rfl rfl rfl (congrArg (AV.int _) la) ?_ | refine DW_A tabs rfl ?_ | refine DW_nil ?_ | refine DW_lits tabOK rfl rfl rfl rfl rfl rfl rfl rfl rfl rfl rfl rfl rfl ?_ | refine DW_append_own tabOK rfl rfl rfl rfl rfl rfl rfl rfl rfl rfl rfl rfl rfl rfl rfl (by simp; omega) (by simp; omega) ?_) | (show W _ _ _ _ _ _; first | refine W_seq ?_ | refine W_text rfl (fun _ _ _ h => h) ?_ | refine W_block ?_ | refine W_skip ?_ | refine W_exit ?_ | refine W_ret ?_ | refine W_true rfl ?_ | refine W_false rfl ?_ | refine W_cond rfl (fun _ => ?_) (fun _ => ?_)))
            refine DW_oapp tabOK rfl rfl rfl rfl rfl (l := cells) rfl rfl rfl rfl rfl rfl rfl rfl rfl rfl (by omega) (by omega) (by simp; omega) (by simp; omega) ?_
            intro cap' l' g1 g2 g3
            repeat' (first | (show DW _ _ _ _ _ _ _ _; first | refine DW_V tabs rfl rfl rfl rfl (congrArg (AV.int _) la) ?_ | refine DW_V tabs rfl rfl rfl rfl (congrArg (AV.int _) fi) ?_ | refine DW_A tabs rfl ?_ | refine DW_nil ?_ | refine DW_lits tabOK rfl rfl rfl rfl rfl rfl rfl rfl rfl rfl rfl rfl rfl ?_ | refine DW_append_own tabOK rfl rfl rfl rfl rfl rfl rfl rfl rfl rfl rfl rfl rfl rfl rfl (by simp; omega) (by simp; omega) ?_) | (show W _ _ _ _ _ _; first | refine W_seq ?_ | refine W_text rfl (fun _ _ _ h => h) ?_ | refine W_block ?_ | refine W_skip ?_ | refine W_exit ?_ | refine W_ret ?_ | refine W_true rfl ?_ | refine W_false rfl ?_ | refine W_cond rfl (fun _ => ?_) (fun _ => ?_)))
            obtain ⟨k1, k2, k3⟩ := cat_next hce g1 g2 g3
            have hg := rowG_all (k := 1) (id := 2) k1 k2 k3 (avs_closed h _)
            refine ⟨hi1, _, _, ⟨cap', rowG ((A ++ r.1).map (avV h)) cap', 1, Nat.le_refl 1, ?_, ?_, ?_, rfl, rfl⟩, Joint.move (k := 1) (id := 2) (Nat.le_refl 1) (by omega) rfl hg.1 hg.2 trivial ?_ trivial⟩
            · rw [hs]; rw [List.length_map] at k3; exact k3
            · rw [hs]; have := rowG_take ((A ++ r.1).map (avV h)) cap'; rw [List.length_map] at this; exact this
            · exact rowG_len k3
            · rw [hs, hl]
              exact cat_K SubK.osl rfl rfl rfl
        · have d1 : decide ((i : Int) < (rows.length : Int)) = false := by simp; omega
          obtain rfl : i = rows.length := by omega
          rw [List.take_length] at hce hcap
          rw [List.take_length]
          have hid2 : id = 0 ∨ id = 1 := by omega
          rcases hid2 with rfl | rfl
          · refine W_ghost (Joint.freeze 6 (xs := (flatV rows).map (avV h)) rfl rfl hce (by omega) hcap (avs_one h _)) ?_
            repeat' (first | (show DW _ _ _ _ _ _ _ _; first | refine DW_V tabs rfl rfl rfl rfl (congrArg AV.bool d1) ?_ | refine DW_A tabs rfl ?_ | refine DW_nil ?_ | refine DW_lits tabOK rfl rfl rfl rfl rfl rfl rfl rfl rfl rfl rfl rfl rfl ?_ | refine DW_append_own tabOK rfl rfl rfl rfl rfl rfl rfl rfl rfl rfl rfl rfl rfl rfl rfl (by simp; omega) (by simp; omega) ?_) | (show W _ _ _ _ _ _; first | refine W_seq ?_ | refine W_text rfl (fun _ _ _ h => h) ?_ | refine W_block ?_ | refine W_skip ?_ | refine W_exit ?_ | refine W_ret ?_ | refine W_true rfl ?_ | refine W_false rfl ?_ | refine W_cond rfl (fun _ => ?_) (fun _ => ?_)))
            exact ⟨rfl, _, rfl, _, rfl, SubC.of_closed (closed_vxs h _)⟩
          · refine W_ghost (Joint.freeze 6 (xs := (flatV rows).map (avV h)) rfl rfl hce (by omega) hcap (avs_one h _)) ?_
            repeat' (first | (show DW _ _ _ _ _ _ _ _; first | refine DW_V tabs rfl rfl rfl rfl (congrArg AV.bool d1) ?_ | refine DW_A tabs rfl ?_ | refine DW_nil ?_ | refine DW_lits tabOK rfl rfl rfl rfl rfl rfl rfl rfl rfl rfl rfl rfl rfl ?_ | refine DW_append_own tabOK rfl rfl rfl rfl rfl rfl rfl rfl rfl rfl rfl rfl rfl rfl rfl (by simp; omega) (by simp; omega) ?_) | (show W _ _ _ _ _ _; first | refine W_seq ?_ | refine W_text rfl (fun _ _ _ h => h) ?_ | refine W_block ?_ | refine W_skip ?_ | refine W_exit ?_ | refine W_ret ?_ | refine W_true rfl ?_ | refine W_false rfl ?_ | refine W_cond rfl (fun _ => ?_) (fun _ => ?_)))
            exact ⟨rfl, _, rfl, _, rfl, SubC.of_closed (closed_vxs h _)⟩
end Go.Proofs.YthdeopopodhimaaDoor
